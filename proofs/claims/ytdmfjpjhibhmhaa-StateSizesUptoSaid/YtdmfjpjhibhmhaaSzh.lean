/- StateSizes of layer 10's laws returns true for every state, and leaves it as it was, where the state is of bulk at most 1048576 (no other condition). (Part 8: Rs, F2, Right, Awake, Sizes, Wit, Wit2.) -/
import Derived.Test.YtdmfjpjhibhmhaaSzg

/- ReadState on the bytes of a state. -/
namespace Go.PK
open Go.Proofs

/-- the lists of a state that was read, each in memory of its own -/
abbrev listsΔ (x : StateD) (a : Addrs) : List Chunk :=
  [.sl (a.history.sl x.history.length) x.history.length (x.history.flatMap bv) 24 32, .sl (a.votes.sl x.votes.length) x.votes.length (x.votes.flatMap eth1C) 34 65,
   .sl (a.validators.sl x.validators.length) x.validators.length (x.validators.flatMap valC) 62 86, .sl (a.balances.sl x.balances.length) x.balances.length (x.balances.map u64) 22 1,
   .sl (a.previous.sl x.previous.length) x.previous.length (bs x.previous) 5 1, .sl (a.current.sl x.current.length) x.current.length (bs x.current) 5 1, .sl (a.scores.sl x.scores.length) x.scores.length (x.scores.map u64) 22 1]

def PC.of (q : PP) : PC := ⟨q.1, q.2⟩

set_option maxHeartbeats 4000000 in
theorem readStateW (w : World) (b o c : Nat) (x : StateD) (hf : x.Fits) (hall : Old w [] 1 (.slice (some ⟨b, o, none⟩) (encState x).length c) (encState x).length (bs (encState x))) :
    Calls Try.prog 13 [.slice (some ⟨b, o, none⟩) (encState x).length c].toArray w
      (Gives (fun _ : Addrs => True) (fun a => .tuple #[aggS (stateS x a), .int .i64 0]) (fun a => listsΔ x a) [] w) := by
  have hlen := encState_length x hf
  have hl0 : 2101 ≤ (encState x).length := by rw [hlen, stEnd]; omega
  have hl1 : (encState x).length < 1000000000 := by obtain ⟨f1, f2, f3, f4, f5, f6, f7⟩ := id hf; rw [hlen, stEnd]; omega
  refine calls_enter (fn := Try.f13) Try.func13 rfl Try.ntmps13 rfl (mem0 w) ?_
  (repeat (first | (refine WC_seq ?_) | (refine WC_region ?_)))
  (first | (refine WL_alloc rfl rfl (fun b2 => ?_)) | (refine WL_box_agg rfl rfl rfl inferInstance (fun b2 => ?_)) | (refine WL_box rfl rfl rfl rfl (fun b2 => ?_)))
  (repeat (first | (refine WC_seq ?_) | (refine WC_region ?_) | (refine WL_val rfl rfl rfl (by exact val_assign rfl) ?_)))
  (first | (refine WL_alloc rfl rfl (fun b4 => ?_)) | (refine WL_box_agg rfl rfl rfl inferInstance (fun b4 => ?_)) | (refine WL_box rfl rfl rfl rfl (fun b4 => ?_)))
  (repeat (first | (refine WC_seq ?_) | (refine WC_region ?_) | (refine WL_val rfl rfl rfl (by exact val_move rfl) ?_)))
  refine WL_call rfl rfl rfl .nil (fun w' _ _ => inOpen w' b o c _ 2101 7 (encState x) rfl hl0 (fun h => by cases h)) (fun i _ => ?_)
  (repeat (first | (refine WC_seq ?_) | (refine WC_region ?_) | (refine WL_val rfl rfl rfl (by first | exact val_move rfl | exact val_assign rfl) ?_)))
  refine WL_build1 rfl rfl rfl rfl rfl rfl rfl rfl rfl rfl (fun b9 => ?_)
  refine WL_call (Δ := inΔ i ⟨b, o, c, none, 0⟩ ⟨encState x, 0, [], 0⟩) rfl rfl rfl (by repeat (first | exact Take.nil | apply Take.cons (by repeat (first | exact .head | apply Pick.tail | apply Put.tail)))) (fun w' hw' hd => inOffsets w' i _ _ _ 2101 [688, 764, 776, 780, 1104, 1108, 1233] (stOffs x) _ hd rfl ?_ (offsOk x hf) (hall.pass hw' (by repeat (first | exact Take.nil | apply Take.cons (by repeat (first | exact .head | apply Pick.tail | apply Put.tail))))) hl1 (by decide)) (fun g hg => ?_)
  · exact ⟨(SlRd.blk (k := 7) (m := 7) (sz := 1) .head (by exact rfl) rfl (Nat.le_refl _) (by simp)).at hw', Sep.blk hw' (by repeat (first | exact Take.nil | apply Take.cons (by repeat (first | exact .head | apply Pick.tail | apply Put.tail)))) .head⟩
  obtain ⟨g1, g2, g3⟩ := hg
  obtain ⟨ab, ao, ac, gp, gc⟩ := g
  dsimp only at g1 g2 g3
  subst g1 g2 g3
  (repeat (first | (refine WC_seq ?_) | (refine WC_region ?_) | (refine WL_val rfl rfl rfl (by exact val_move rfl) ?_)))
  refine WL_call rfl rfl rfl (by repeat (first | exact Take.nil | apply Take.cons (by repeat (first | exact .head | apply Pick.tail | apply Put.tail)))) (fun w' hw' hd => readState1 w' i b4 ⟨ab, ao, ac, gp, gc⟩ x (stOffs x ++ [(encState x).length]) _ hf (by rw [hlen]) hd (hall.pass hw' (by repeat (first | exact Take.nil | apply Take.cons (by repeat (first | exact .head | apply Pick.tail | apply Put.tail)))))) (fun γ _ => ?_)
  obtain ⟨q1, q2⟩ := γ
  dsimp only
  (repeat (first | (refine WC_seq ?_) | (refine WC_region ?_) | (refine WL_val rfl rfl rfl (by exact val_move rfl) ?_)))
  refine WL_call rfl rfl rfl (by repeat (first | exact Take.nil | apply Take.cons (by repeat (first | exact .head | apply Pick.tail | apply Put.tail)))) (fun w' hw' hd => readState2 w' i b4 ⟨ab, ao, ac, gp, gc⟩ x (stOffs x ++ [(encState x).length]) _ q1 q2 hf (by rw [hlen]) hd (hall.pass hw' (by repeat (first | exact Take.nil | apply Take.cons (by repeat (first | exact .head | apply Pick.tail | apply Put.tail)))))) (fun γ _ => ?_)
  obtain ⟨q3, q4, q5, q6⟩ := γ
  dsimp only
  (repeat (first | (refine WC_seq ?_) | (refine WC_region ?_) | (refine WL_val rfl rfl rfl (by exact val_move rfl) ?_)))
  refine WL_call rfl rfl rfl (by repeat (first | exact Take.nil | apply Take.cons (by repeat (first | exact .head | apply Pick.tail | apply Put.tail)))) (fun w' hw' hd => readState3 w' i b4 ⟨ab, ao, ac, gp, gc⟩ x (stOffs x ++ [(encState x).length]) _ q1 q2 q3 q4 q5 q6 hf (by rw [hlen]) hd (hall.pass hw' (by repeat (first | exact Take.nil | apply Take.cons (by repeat (first | exact .head | apply Pick.tail | apply Put.tail)))))) (fun q7 _ => ?_)
  (repeat (first | (refine WC_seq ?_) | (refine WC_region ?_) | (refine WC_skip ?_) | (refine WL_nil ?_) | (refine QX_then ?_) | (refine WC_cond_false rfl ?_) | (refine WL_val rfl rfl rfl (by first | exact val_move rfl | exact val_fieldAddr0 rfl | (apply val_load_blk; exact rfl; (repeat (first | exact .head | apply Pick.tail)); exact rfl) | (apply val_load_blk_agg; exact rfl; (repeat (first | exact .head | apply Pick.tail)); exact rfl) | exact val_nilCheck rfl | exact val_neq rfl rfl) ?_)))
  refine WL_as 27 (aggS (stateS x ⟨.of q1, .of q2, .of q3, .of q4, .of q5, .of q6, .of q7⟩)) rfl rfl ?_
  refine WL_store_agg (q := stateS x ⟨.of q1, .of q2, .of q3, .of q4, .of q5, .of q6, .of q7⟩) (segs' := stateS x ⟨.of q1, .of q2, .of q3, .of q4, .of q5, .of q6, .of q7⟩) rfl rfl rfl (by repeat (first | exact .head | apply Pick.tail | apply Put.tail)) (by repeat (first | exact PutSeg.one | apply PutSeg.skip | apply PutSeg.next | exact PutSeg.inner rfl)) ?_
  (repeat (first | (refine WC_ret ?_) | (refine WL_val rfl rfl rfl (by exact val_assign rfl) ?_)))
  refine QX_ret (l := [.cell 2 49, .tmp 3]) rfl (.cell rfl (load_blk_agg (by repeat (first | exact .head | apply Pick.tail | apply Put.tail)) (by exact rfl)) (.tmp rfl .nil)) ?_
  intro w' hw'
  exact gives ⟨.of q1, .of q2, .of q3, .of q4, .of q5, .of q6, .of q7⟩ hw' trivial rfl (by repeat (first | exact Sel.nil | refine Sel.cons (by repeat (first | exact .head | apply Pick.tail | apply Put.tail)) ?_))
end Go.PK

/- Where the fields of struct types lie: facts of the translation. Written by a program (genfacts.py). -/
namespace Go.PK
open Go.Proofs

instance : Places Try.prog 7 [(0, 1), (1, 1), (2, 1), (3, 1)] := ⟨by kernel_rfl⟩
instance : Places Try.prog 8 [(0, 1), (1, 1), (2, 1), (3, 1)] := ⟨by kernel_rfl⟩
instance : Places Try.prog 13 [(0, 1), (1, 1)] := ⟨by kernel_rfl⟩
instance : Places Try.prog 14 [(0, 1), (1, 1)] := ⟨by kernel_rfl⟩
instance : Places Try.prog 18 [(0, 1)] := ⟨by kernel_rfl⟩
instance : Places Try.prog 19 [(0, 1)] := ⟨by kernel_rfl⟩
instance : Places Try.prog 27 [(0, 4), (4, 4), (8, 1)] := ⟨by kernel_rfl⟩
instance : Places Try.prog 28 [(0, 4), (4, 4), (8, 1)] := ⟨by kernel_rfl⟩
instance : Places Try.prog 29 [(0, 1), (1, 1), (2, 32), (34, 32), (66, 32)] := ⟨by kernel_rfl⟩
instance : Places Try.prog 30 [(0, 1), (1, 1), (2, 32), (34, 32), (66, 32)] := ⟨by kernel_rfl⟩
instance : Places Try.prog 33 [(0, 32), (32, 1), (33, 32)] := ⟨by kernel_rfl⟩
instance : Places Try.prog 34 [(0, 32), (32, 1), (33, 32)] := ⟨by kernel_rfl⟩
instance : Places Try.prog 41 [(0, 1), (1, 32)] := ⟨by kernel_rfl⟩
instance : Places Try.prog 42 [(0, 1), (1, 32)] := ⟨by kernel_rfl⟩
instance : Places Try.prog 46 [(0, 384), (384, 48)] := ⟨by kernel_rfl⟩
instance : Places Try.prog 47 [(0, 384), (384, 48)] := ⟨by kernel_rfl⟩
instance : Places Try.prog 48 [(0, 1), (1, 32), (33, 1), (34, 9), (43, 98), (141, 256), (397, 256), (653, 1), (654, 65), (719, 1), (720, 1), (721, 1), (722, 1), (723, 256), (979, 8), (987, 1), (988, 1), (989, 4), (993, 33), (1026, 33), (1059, 33), (1092, 1), (1093, 432), (1525, 432)] := ⟨by kernel_rfl⟩
instance : Places Try.prog 49 [(0, 1), (1, 32), (33, 1), (34, 9), (43, 98), (141, 256), (397, 256), (653, 1), (654, 65), (719, 1), (720, 1), (721, 1), (722, 1), (723, 256), (979, 8), (987, 1), (988, 1), (989, 4), (993, 33), (1026, 33), (1059, 33), (1092, 1), (1093, 432), (1525, 432)] := ⟨by kernel_rfl⟩
instance : Places Try.prog 61 [(0, 48), (48, 32), (80, 1), (81, 1), (82, 1), (83, 1), (84, 1), (85, 1)] := ⟨by kernel_rfl⟩
instance : Places Try.prog 62 [(0, 48), (48, 32), (80, 1), (81, 1), (82, 1), (83, 1), (84, 1), (85, 1)] := ⟨by kernel_rfl⟩
instance : Places Try.prog 67 [(0, 1), (1, 1), (2, 1), (3, 1), (4, 1)] := ⟨by kernel_rfl⟩
instance : Places Try.prog 68 [(0, 1), (1, 1), (2, 1), (3, 1), (4, 1)] := ⟨by kernel_rfl⟩
instance : Places Try.prog 77 [(0, 1), (1, 1), (2, 1), (3, 1), (4, 1)] := ⟨by kernel_rfl⟩
instance : Places Try.prog 78 [(0, 1), (1, 1), (2, 1), (3, 1), (4, 1)] := ⟨by kernel_rfl⟩
instance : Places Try.prog 137 [(0, 1), (1, 1), (2, 1), (3, 1)] := ⟨by kernel_rfl⟩
instance : Places Try.prog 138 [(0, 1), (1, 1), (2, 1), (3, 1)] := ⟨by kernel_rfl⟩

end Go.PK

/- Which states are right: the program's answer. -/
namespace Go.PK
open Go.Proofs
attribute [local irreducible] WL WC QX WD

def EpOk (n : UInt64) : Prop := n.toNat = 18446744073709551615 ∨ n.toNat < 2199023255552
structure ValRight (v : Validator) : Prop where
  most : v.eff.toNat ≤ 32000000000
  whole : v.eff.toNat % 1000000000 = 0
  elig : EpOk v.elig
  act : EpOk v.act
  exit : EpOk v.exit
  wd : EpOk v.wd
/-- A right state. -/
structure StateD.Right (x : StateD) : Prop where
  nv : x.validators.length ≤ 65536
  nb : x.balances.length = x.validators.length
  np : x.previous.length = x.validators.length
  nc : x.current.length = x.validators.length
  ns : x.scores.length = x.validators.length
  nh : x.history.length ≤ 1024
  nt : x.votes.length ≤ 8
  slot : x.slot.toNat < 1099511627776
  deps : x.deposits.toNat < 1099511627776
  head : x.header.slot.toNat ≤ x.slot.toNat
  oj : x.oldJust.epoch.toNat ≤ x.slot.toNat / 4
  j : x.just.epoch.toNat ≤ x.slot.toNat / 4
  f : x.final.epoch.toNat ≤ x.slot.toNat / 4
  vals : ∀ v ∈ x.validators, ValRight v
  scores : ∀ s ∈ x.scores, s.toNat ≤ 1099511627776
  bal : sumU x.balances ≤ 144115188075855872
  slash : sumU x.slashings.toList ≤ 144115188075855872

theorem stateFew (w : World) (v : Value) (l : List UInt64) (hv : SlAt w 1 v l.length (l.map u64)) (hl : l.length < 1000000000) :
    Calls Try.prog 14 [v].toArray w (Gives (fun _ : Unit => True) (fun _ => .bool (decide (sumU l ≤ 144115188075855872))) (fun _ => []) [] w) := by
  obtain ⟨p, c, rfl⟩ := hv.shape
  refine calls_enter (fn := Try.f14) Try.func14 rfl Try.ntmps14 rfl (mem0 w) ?_
  (repeat (first | (refine WC_seq ?_) | (refine WC_block ?_) | (refine WC_region ?_) | (refine WL_nil ?_) | (refine QX_then ?_) | (refine WL_val rfl rfl rfl (by first | exact val_move rfl | exact val_assign rfl | exact val_len rfl) ?_)))
  refine WC_loopS (G := Nat × Nat) (fun i => i.1 ≤ l.length ∧ sumU (l.take i.1) + i.2 = 144115188075855872) (fun i => [(3, .int .u64 (i.2 : Int)), (6, .slice p l.length c), (7, .int .i64 l.length), (8, .int .i64 i.1)]) (fun _ => []) (fun i => l.length - i.1)
    (0, 144115188075855872) ⟨Nat.zero_le _, by simp [sumU]⟩ ⟨rfl, rfl, rfl, rfl, trivial⟩ (by repeat (first | exact Sel.nil | refine Sel.cons (by repeat (first | exact .head | apply Pick.tail | apply Put.tail)) ?_)) ?_
  intro ⟨i, r⟩ hi
  obtain ⟨hi, hr⟩ := hi
  dsimp only at hi hr ⊢
  (repeat (first | (refine WC_seq ?_) | (refine WC_region ?_) | (refine WL_nil ?_) | (refine QX_then ?_) | (refine WL_val rfl rfl rfl (by exact val_lss rfl rfl) ?_)))
  refine WC_cond rfl (fun ht => ?_) (fun hf => ?_)
  · have hlt : i < l.length := by have := of_decide_eq_true ht; omega
    obtain ⟨b, o, hp, hrd⟩ := SlV.posOld (S := []) hv Sep.none (by omega) (by decide)
    have hb := l[i].toNat_lt
    have hs := sumU_take_succ l i hlt
    (repeat (first | (refine WC_seq ?_) | (refine WC_block ?_) | (refine WC_region ?_) | (refine WC_skip ?_) | (refine QX_then ?_)))
    refine WL_val rfl rfl rfl (val_indexAddrP1 hp rfl rfl hlt) ?_
    refine WL_val rfl rfl rfl (val_load_at (v := u64 l[i]) rfl (hrd _) (by simp [hlt])) ?_
    (repeat (first | (refine WC_seq ?_) | (refine WC_region ?_) | (refine WL_nil ?_) | (refine QX_then ?_) | (refine WL_val rfl rfl rfl (by first | exact val_move rfl | exact val_assign rfl | exact val_gtr rfl rfl) ?_)))
    refine WC_cond rfl (fun ht => ?_) (fun hf => ?_)
    · have h1 : r < l[i].toNat := by have := of_decide_eq_true ht; omega
      (repeat (first | (refine WC_seq ?_) | (refine WC_region ?_) | (refine WC_ret ?_) | (refine WL_nil ?_) | (refine QX_then ?_) | (refine QX_then_ret ?_) | (refine QX_block_ret ?_) | (refine WL_val rfl rfl rfl (by exact val_assign rfl) ?_)))
      refine QX_ret (l := [.tmp 2]) rfl (.tmp rfl .nil) ?_
      intro w' hw'
      have := sumU_take_le l (i + 1)
      exact gives () hw' trivial (by rw [show decide (sumU l ≤ 144115188075855872) = false from decide_eq_false (by omega)]; rfl) (by repeat (first | exact Sel.nil | refine Sel.cons (by repeat (first | exact .head | apply Pick.tail | apply Put.tail)) ?_))
    · have h1 : l[i].toNat ≤ r := by have := of_decide_eq_false hf; omega
      (repeat (first | (refine WC_region ?_) | (refine WC_skip ?_) | (refine QX_then ?_) | (refine WL_val rfl rfl rfl (by exact val_move rfl) ?_)))
      refine WL_val rfl rfl rfl (val_subU rfl rfl h1 (by omega)) ?_
      (repeat (first | (refine WC_region ?_) | (refine WL_nil ?_) | (refine QX_then ?_) | (refine QX_block ?_) | (refine WL_val rfl rfl rfl (by first | exact val_move rfl | exact val_assign rfl | (apply val_addI; exact rfl; exact rfl; omega; omega)) ?_)))
      exact QX_againS (i + 1, r - l[i].toNat) ⟨by simp; omega, by simp; omega⟩ (by simp; omega) ⟨rfl, rfl, rfl, rfl, trivial⟩ (by repeat (first | exact Sel.nil | refine Sel.cons (by repeat (first | exact .head | apply Pick.tail | apply Put.tail)) ?_))
  · have hi8 : i = l.length := by have := of_decide_eq_false hf; omega
    subst hi8
    rw [List.take_length] at hr
    (repeat (first | (refine WC_seq ?_) | (refine WC_region ?_) | (refine WC_ret ?_) | (refine WC_exit ?_) | (refine WL_nil ?_) | (refine QX_then ?_) | (refine QX_then_exit ?_) | (refine QX_block_exit ?_) | (refine WL_val rfl rfl rfl (by exact val_assign rfl) ?_)))
    refine QX_ret (l := [.tmp 2]) rfl (.tmp rfl .nil) ?_
    intro w' hw'
    exact gives () hw' trivial (by rw [show decide (sumU l ≤ 144115188075855872) = true from decide_eq_true (by omega)]; rfl) (by repeat (first | exact Sel.nil | refine Sel.cons (by repeat (first | exact .head | apply Pick.tail | apply Put.tail)) ?_))

abbrev ck3S (x : StateD) : List Seg := [(1, [u64 x.oldJust.epoch]), (32, bv x.oldJust.root), (1, [u64 x.just.epoch]), (32, bv x.just.root), (1, [u64 x.final.epoch]), (32, bv x.final.root)]
abbrev ep4S (v : Validator) : List Seg := [(4, [u64 v.elig, u64 v.act, u64 v.exit, u64 v.wd])]

instance {v : Validator} : SegOk (4, [u64 v.elig, u64 v.act, u64 v.exit, u64 v.wd]) := ⟨rfl, fun u hu => by simp at hu; rcases hu with rfl | rfl | rfl | rfl <;> rfl⟩

set_option maxHeartbeats 4000000 in
theorem stateRight (w : World) (x : StateD) (a : Addrs) (hL : ListsAt w [] x a) (hz : x.validators.length ≤ 1048576 ∧ x.balances.length ≤ 1048576 ∧ x.scores.length ≤ 1048576) :
    Calls Try.prog 9 [aggS (stateS x a)].toArray w (Gives (fun r : Bool => (r = true ↔ x.Right)) (fun r => .bool r) (fun _ => []) [] w) := by
  obtain ⟨z1, z2, z3⟩ := hz
  refine calls_enter (fn := Try.f9) Try.func9 rfl Try.ntmps9 rfl (mem0 w) ?_
  (repeat (first | (refine WC_seq ?_) | (refine WC_region ?_)))
  (first | (refine WL_alloc rfl rfl (fun b1 => ?_)) | (refine WL_box_agg rfl rfl rfl inferInstance (fun b1 => ?_)) | (refine WL_box rfl rfl rfl rfl (fun b1 => ?_)))
  (repeat (first | (refine WC_seq ?_) | (refine WC_region ?_) | (refine WL_nil ?_) | (refine QX_then ?_) | (refine WL_val rfl rfl rfl (by first | exact val_move rfl | exact val_assign rfl | exact val_fieldAddr0 rfl | (apply val_load_blk; exact rfl; (repeat (first | exact .head | apply Pick.tail)); exact rfl) | exact val_len rfl | exact val_gtr rfl rfl) ?_)))
  refine WL_bool 18 rfl (fun ht => ?_) (fun ht => ?_)
  · have h1 := of_decide_eq_true ht
    (repeat (first | (refine WC_seq ?_) | (refine WC_region ?_) | (refine WC_ret ?_) | (refine WL_nil ?_) | (refine QX_then ?_) | (refine QX_then_ret ?_) | (refine WC_cond_true rfl ?_) | (refine WL_off rfl rfl rfl ?_) | (refine WL_val rfl rfl rfl (by first | exact val_move rfl | exact val_assign rfl | exact val_pick_true rfl rfl) ?_)))
    refine QX_ret (l := [.tmp 2]) rfl (.tmp rfl .nil) ?_
    intro w' hw'
    exact gives false hw' (by simp; intro h; have := h.nv; have := h.nb; have := h.np; have := h.nc; have := h.ns; have := h.nh; have := h.nt; omega) rfl (by repeat (first | exact Sel.nil | refine Sel.cons (by repeat (first | exact .head | apply Pick.tail | apply Put.tail)) ?_))
  have h18 := of_decide_eq_false ht
  clear ht
  (repeat (refine WL_val rfl rfl rfl (by first | exact val_move rfl | exact val_fieldAddr0 rfl | (apply val_load_blk; exact rfl; (repeat (first | exact .head | apply Pick.tail)); exact rfl) | exact val_len rfl | exact val_pick_false rfl rfl | exact val_neq rfl rfl) ?_))
  refine WL_bool 25 rfl (fun ht => ?_) (fun ht => ?_)
  · have h1 := of_decide_eq_true ht
    (repeat (first | (refine WC_seq ?_) | (refine WC_region ?_) | (refine WC_ret ?_) | (refine WL_nil ?_) | (refine QX_then ?_) | (refine QX_then_ret ?_) | (refine WC_cond_true rfl ?_) | (refine WL_off rfl rfl rfl ?_) | (refine WL_val rfl rfl rfl (by first | exact val_move rfl | exact val_assign rfl | exact val_pick_true rfl rfl) ?_)))
    refine QX_ret (l := [.tmp 2]) rfl (.tmp rfl .nil) ?_
    intro w' hw'
    exact gives false hw' (by simp; intro h; have := h.nv; have := h.nb; have := h.np; have := h.nc; have := h.ns; have := h.nh; have := h.nt; omega) rfl (by repeat (first | exact Sel.nil | refine Sel.cons (by repeat (first | exact .head | apply Pick.tail | apply Put.tail)) ?_))
  have h25 := of_decide_eq_false ht
  clear ht
  (repeat (refine WL_val rfl rfl rfl (by first | exact val_move rfl | exact val_fieldAddr0 rfl | (apply val_load_blk; exact rfl; (repeat (first | exact .head | apply Pick.tail)); exact rfl) | exact val_len rfl | exact val_pick_false rfl rfl | exact val_neq rfl rfl) ?_))
  refine WL_bool 32 rfl (fun ht => ?_) (fun ht => ?_)
  · have h1 := of_decide_eq_true ht
    (repeat (first | (refine WC_seq ?_) | (refine WC_region ?_) | (refine WC_ret ?_) | (refine WL_nil ?_) | (refine QX_then ?_) | (refine QX_then_ret ?_) | (refine WC_cond_true rfl ?_) | (refine WL_off rfl rfl rfl ?_) | (refine WL_val rfl rfl rfl (by first | exact val_move rfl | exact val_assign rfl | exact val_pick_true rfl rfl) ?_)))
    refine QX_ret (l := [.tmp 2]) rfl (.tmp rfl .nil) ?_
    intro w' hw'
    exact gives false hw' (by simp; intro h; have := h.nv; have := h.nb; have := h.np; have := h.nc; have := h.ns; have := h.nh; have := h.nt; omega) rfl (by repeat (first | exact Sel.nil | refine Sel.cons (by repeat (first | exact .head | apply Pick.tail | apply Put.tail)) ?_))
  have h32 := of_decide_eq_false ht
  clear ht
  (repeat (refine WL_val rfl rfl rfl (by first | exact val_move rfl | exact val_fieldAddr0 rfl | (apply val_load_blk; exact rfl; (repeat (first | exact .head | apply Pick.tail)); exact rfl) | exact val_len rfl | exact val_pick_false rfl rfl | exact val_neq rfl rfl) ?_))
  refine WL_bool 39 rfl (fun ht => ?_) (fun ht => ?_)
  · have h1 := of_decide_eq_true ht
    (repeat (first | (refine WC_seq ?_) | (refine WC_region ?_) | (refine WC_ret ?_) | (refine WL_nil ?_) | (refine QX_then ?_) | (refine QX_then_ret ?_) | (refine WC_cond_true rfl ?_) | (refine WL_off rfl rfl rfl ?_) | (refine WL_val rfl rfl rfl (by first | exact val_move rfl | exact val_assign rfl | exact val_pick_true rfl rfl) ?_)))
    refine QX_ret (l := [.tmp 2]) rfl (.tmp rfl .nil) ?_
    intro w' hw'
    exact gives false hw' (by simp; intro h; have := h.nv; have := h.nb; have := h.np; have := h.nc; have := h.ns; have := h.nh; have := h.nt; omega) rfl (by repeat (first | exact Sel.nil | refine Sel.cons (by repeat (first | exact .head | apply Pick.tail | apply Put.tail)) ?_))
  have h39 := of_decide_eq_false ht
  clear ht
  (repeat (refine WL_val rfl rfl rfl (by first | exact val_move rfl | exact val_fieldAddr0 rfl | (apply val_load_blk; exact rfl; (repeat (first | exact .head | apply Pick.tail)); exact rfl) | exact val_len rfl | exact val_pick_false rfl rfl | exact val_neq rfl rfl) ?_))
  refine WL_bool 46 rfl (fun ht => ?_) (fun ht => ?_)
  · have h1 := of_decide_eq_true ht
    (repeat (first | (refine WC_seq ?_) | (refine WC_region ?_) | (refine WC_ret ?_) | (refine WL_nil ?_) | (refine QX_then ?_) | (refine QX_then_ret ?_) | (refine WC_cond_true rfl ?_) | (refine WL_off rfl rfl rfl ?_) | (refine WL_val rfl rfl rfl (by first | exact val_move rfl | exact val_assign rfl | exact val_pick_true rfl rfl) ?_)))
    refine QX_ret (l := [.tmp 2]) rfl (.tmp rfl .nil) ?_
    intro w' hw'
    exact gives false hw' (by simp; intro h; have := h.nv; have := h.nb; have := h.np; have := h.nc; have := h.ns; have := h.nh; have := h.nt; omega) rfl (by repeat (first | exact Sel.nil | refine Sel.cons (by repeat (first | exact .head | apply Pick.tail | apply Put.tail)) ?_))
  have h46 := of_decide_eq_false ht
  clear ht
  (repeat (refine WL_val rfl rfl rfl (by first | exact val_move rfl | exact val_fieldAddr0 rfl | (apply val_load_blk; exact rfl; (repeat (first | exact .head | apply Pick.tail)); exact rfl) | exact val_len rfl | exact val_pick_false rfl rfl | exact val_gtr rfl rfl) ?_))
  refine WL_bool 52 rfl (fun ht => ?_) (fun ht => ?_)
  · have h1 := of_decide_eq_true ht
    (repeat (first | (refine WC_seq ?_) | (refine WC_region ?_) | (refine WC_ret ?_) | (refine WL_nil ?_) | (refine QX_then ?_) | (refine QX_then_ret ?_) | (refine WC_cond_true rfl ?_) | (refine WL_off rfl rfl rfl ?_) | (refine WL_val rfl rfl rfl (by first | exact val_assign rfl | exact val_pick_true rfl rfl) ?_)))
    refine QX_ret (l := [.tmp 2]) rfl (.tmp rfl .nil) ?_
    intro w' hw'
    exact gives false hw' (by simp; intro h; have := h.nv; have := h.nb; have := h.np; have := h.nc; have := h.ns; have := h.nh; have := h.nt; omega) rfl (by repeat (first | exact Sel.nil | refine Sel.cons (by repeat (first | exact .head | apply Pick.tail | apply Put.tail)) ?_))
  have h52 := of_decide_eq_false ht
  clear ht
  (repeat (first | (refine WL_nil ?_) | (refine QX_then ?_) | (refine WL_val rfl rfl rfl (by first | exact val_fieldAddr0 rfl | (apply val_load_blk; exact rfl; (repeat (first | exact .head | apply Pick.tail)); exact rfl) | exact val_len rfl | exact val_pick_false rfl rfl | exact val_gtr rfl rfl) ?_)))
  refine WC_cond rfl (fun ht => ?_) (fun ht => ?_)
  · have h1 := of_decide_eq_true ht
    (repeat (first | (refine WC_seq ?_) | (refine WC_region ?_) | (refine WC_ret ?_) | (refine WL_nil ?_) | (refine QX_then ?_) | (refine QX_then_ret ?_) | (refine WL_val rfl rfl rfl (by exact val_assign rfl) ?_)))
    refine QX_ret (l := [.tmp 2]) rfl (.tmp rfl .nil) ?_
    intro w' hw'
    exact gives false hw' (by simp; intro h; have := h.nv; have := h.nb; have := h.np; have := h.nc; have := h.ns; have := h.nh; have := h.nt; omega) rfl (by repeat (first | exact Sel.nil | refine Sel.cons (by repeat (first | exact .head | apply Pick.tail | apply Put.tail)) ?_))
  have h57 := of_decide_eq_false ht
  clear ht
  (repeat (first | (refine WC_seq ?_) | (refine WC_region ?_) | (refine WC_skip ?_) | (refine QX_then ?_) | (refine WL_val rfl rfl rfl (by first | exact val_move rfl | exact val_fieldAddr0 rfl | (apply val_load_blk; exact rfl; (repeat (first | exact .head | apply Pick.tail)); exact rfl) | exact val_geq rfl rfl) ?_)))
  have hs64 := x.slot.toNat_lt
  refine WL_bool 61 rfl (fun ht => ?_) (fun ht => ?_)
  · have h1 := of_decide_eq_true ht
    (repeat (first | (refine WC_seq ?_) | (refine WC_region ?_) | (refine WC_ret ?_) | (refine WL_nil ?_) | (refine QX_then ?_) | (refine QX_then_ret ?_) | (refine WC_cond_true rfl ?_) | (refine WL_off rfl rfl rfl ?_) | (refine WL_val rfl rfl rfl (by first | exact val_move rfl | exact val_assign rfl | exact val_pick_true rfl rfl) ?_)))
    refine QX_ret (l := [.tmp 2]) rfl (.tmp rfl .nil) ?_
    intro w' hw'
    exact gives false hw' (by simp; intro h; have := h.slot; have := h.deps; omega) rfl (by repeat (first | exact Sel.nil | refine Sel.cons (by repeat (first | exact .head | apply Pick.tail | apply Put.tail)) ?_))
  have h61 := of_decide_eq_false ht
  clear ht
  (repeat (refine WL_val rfl rfl rfl (by first | exact val_move rfl | exact val_fieldAddr0 rfl | (apply val_load_blk; exact rfl; (repeat (first | exact .head | apply Pick.tail)); exact rfl) | exact val_pick_false rfl rfl | exact val_geq rfl rfl) ?_))
  refine WL_bool 66 rfl (fun ht => ?_) (fun ht => ?_)
  · have h1 := of_decide_eq_true ht
    (repeat (first | (refine WC_seq ?_) | (refine WC_region ?_) | (refine WC_ret ?_) | (refine WL_nil ?_) | (refine QX_then ?_) | (refine QX_then_ret ?_) | (refine WC_cond_true rfl ?_) | (refine WL_off rfl rfl rfl ?_) | (refine WL_val rfl rfl rfl (by first | exact val_assign rfl | exact val_pick_true rfl rfl) ?_)))
    refine QX_ret (l := [.tmp 2]) rfl (.tmp rfl .nil) ?_
    intro w' hw'
    exact gives false hw' (by simp; intro h; have := h.slot; have := h.deps; omega) rfl (by repeat (first | exact Sel.nil | refine Sel.cons (by repeat (first | exact .head | apply Pick.tail | apply Put.tail)) ?_))
  have h66 := of_decide_eq_false ht
  clear ht
  (repeat (first | (refine WL_nil ?_) | (refine QX_then ?_) | (refine WL_val rfl rfl rfl (by first | exact val_fieldAddr0 rfl | exact val_fieldAddr_0 rfl | (apply val_load_blk; exact rfl; (repeat (first | exact .head | apply Pick.tail)); exact rfl) | exact val_pick_false rfl rfl | exact val_gtr rfl rfl) ?_)))
  refine WC_cond rfl (fun ht => ?_) (fun ht => ?_)
  · have h1 := of_decide_eq_true ht
    (repeat (first | (refine WC_seq ?_) | (refine WC_region ?_) | (refine WC_ret ?_) | (refine WL_nil ?_) | (refine QX_then ?_) | (refine QX_then_ret ?_) | (refine WL_val rfl rfl rfl (by exact val_assign rfl) ?_)))
    refine QX_ret (l := [.tmp 2]) rfl (.tmp rfl .nil) ?_
    intro w' hw'
    exact gives false hw' (by simp; intro h; have := h.head; omega) rfl (by repeat (first | exact Sel.nil | refine Sel.cons (by repeat (first | exact .head | apply Pick.tail | apply Put.tail)) ?_))
  have h73 := of_decide_eq_false ht
  clear ht
  (repeat (first | (refine WC_seq ?_) | (refine WC_region ?_) | (refine WC_skip ?_) | (refine WL_nil ?_) | (refine QX_then ?_) | (refine WL_val rfl rfl rfl (by first | exact val_assign rfl | exact val_fieldAddr0 rfl | (apply val_load_blk; exact rfl; (repeat (first | exact .head | apply Pick.tail)); exact rfl) | (apply val_load_blk_agg; exact rfl; (repeat (first | exact .head | apply Pick.tail)); exact rfl) | (apply val_quoU; exact rfl; exact rfl; decide; omega; omega)) ?_)))
  refine WL_val rfl rfl rfl (val_buildArr (vs := [(0, aggS (ckS x.oldJust)), (1, aggS (ckS x.just)), (2, aggS (ckS x.final))]) (q' := ck3S x) rfl ?_) ?_
  · exact .cons (off := 0) (k := 33) rfl rfl inferInstance (by repeat (first | exact PutSeg.one | apply PutSeg.skip | apply PutSeg.next | exact PutSeg.inner rfl)) (.cons (off := 33) (k := 33) rfl rfl inferInstance (by repeat (first | exact PutSeg.one | apply PutSeg.skip | apply PutSeg.next | exact PutSeg.inner rfl)) (.cons (off := 66) (k := 33) rfl rfl inferInstance (by repeat (first | exact PutSeg.one | apply PutSeg.skip | apply PutSeg.next | exact PutSeg.inner rfl)) .nil))
  (repeat (first | (refine WC_block ?_) | (refine WL_nil ?_) | (refine QX_then ?_) | (refine WL_val rfl rfl rfl (by exact val_move rfl) ?_)))
  refine WC_loopS (G := Nat) (fun i => i ≤ 3 ∧ (0 < i → x.oldJust.epoch.toNat ≤ x.slot.toNat / 4) ∧ (1 < i → x.just.epoch.toNat ≤ x.slot.toNat / 4) ∧ (2 < i → x.final.epoch.toNat ≤ x.slot.toNat / 4))
    (fun i => [(1, .pointer (some ⟨b1, 0, none⟩)), (4, .int .u64 ((x.slot.toNat : Int) / 4)), (83, aggS (ck3S x)), (84, .int .i64 i)]) (fun _ => [.blk b1 (stateS x a) 49]) (fun i => 3 - i) 0
    ⟨by decide, by omega, by omega, by omega⟩ ⟨rfl, rfl, rfl, rfl, trivial⟩ (by repeat (first | exact Sel.nil | refine Sel.cons (by repeat (first | exact .head | apply Pick.tail | apply Put.tail)) ?_)) ?_
  intro i hi
  (repeat (first | (refine WC_seq ?_) | (refine WC_region ?_) | (refine WL_nil ?_) | (refine QX_then ?_) | (refine WL_val rfl rfl rfl (by exact val_lss rfl rfl) ?_)))
  refine WC_cond rfl (fun ht => ?_) (fun ht => ?_)
  · have hlt : i < 3 := by have := of_decide_eq_true ht; omega
    clear ht
    obtain rfl | rfl | rfl : i = 0 ∨ i = 1 ∨ i = 2 := by omega
    · (repeat (first | (refine WC_seq ?_) | (refine WC_block ?_) | (refine WC_region ?_) | (refine WC_skip ?_) | (refine QX_then ?_)))
      refine WL_val rfl rfl rfl (val_indexS (q' := ckS x.oldJust) rfl rfl (by decide) (by decide) inferInstance rfl) ?_
      (first | (refine WL_alloc rfl rfl (fun b6 => ?_)) | (refine WL_box_agg rfl rfl rfl inferInstance (fun b6 => ?_)) | (refine WL_box rfl rfl rfl rfl (fun b6 => ?_)))
      (first | (refine WL_store rfl rfl rfl rfl (by repeat (first | exact .head | apply Pick.tail | apply Put.tail)) (by repeat (first | exact PutSeg.one | apply PutSeg.skip | apply PutSeg.next | exact PutSeg.inner rfl)) ?_) | (refine WL_store_agg rfl rfl rfl (by repeat (first | exact .head | apply Pick.tail | apply Put.tail)) (by repeat (first | exact PutSeg.one | apply PutSeg.skip | apply PutSeg.next | exact PutSeg.inner rfl)) ?_))
      (repeat (first | (refine WC_seq ?_) | (refine WC_region ?_) | (refine WL_nil ?_) | (refine QX_then ?_) | (refine WL_val rfl rfl rfl (by first | exact val_move rfl | exact val_fieldAddr0 rfl | (apply val_load_blk; exact rfl; (repeat (first | exact .head | apply Pick.tail)); exact rfl) | exact val_gtr rfl rfl) ?_)))
      refine WC_cond rfl (fun ht => ?_) (fun ht => ?_)
      · have h1 := of_decide_eq_true ht
        (repeat (first | (refine WC_seq ?_) | (refine WC_region ?_) | (refine WC_ret ?_) | (refine WL_nil ?_) | (refine QX_then ?_) | (refine QX_then_ret ?_) | (refine QX_block_ret ?_) | (refine WL_val rfl rfl rfl (by exact val_assign rfl) ?_)))
        refine QX_ret (l := [.tmp 2]) rfl (.tmp rfl .nil) ?_
        intro w' hw'
        exact gives false hw' (by simp; intro h; have := h.oj; omega) rfl (by repeat (first | exact Sel.nil | refine Sel.cons (by repeat (first | exact .head | apply Pick.tail | apply Put.tail)) ?_))
      · have h1 := of_decide_eq_false ht
        (repeat (first | (refine WC_region ?_) | (refine WC_skip ?_) | (refine WL_nil ?_) | (refine QX_then ?_) | (refine QX_block ?_) | (refine WL_val rfl rfl rfl (by first | exact val_move rfl | (apply val_addI; exact rfl; exact rfl; omega; omega)) ?_)))
        exact QX_againS (0 + 1) (by omega) (by omega) ⟨rfl, rfl, rfl, rfl, trivial⟩ (by repeat (first | exact Sel.nil | refine Sel.cons (by repeat (first | exact .head | apply Pick.tail | apply Put.tail)) ?_))
    · (repeat (first | (refine WC_seq ?_) | (refine WC_block ?_) | (refine WC_region ?_) | (refine WC_skip ?_) | (refine QX_then ?_)))
      refine WL_val rfl rfl rfl (val_indexS (q' := ckS x.just) rfl rfl (by decide) (by decide) inferInstance rfl) ?_
      (first | (refine WL_alloc rfl rfl (fun b6 => ?_)) | (refine WL_box_agg rfl rfl rfl inferInstance (fun b6 => ?_)) | (refine WL_box rfl rfl rfl rfl (fun b6 => ?_)))
      (first | (refine WL_store rfl rfl rfl rfl (by repeat (first | exact .head | apply Pick.tail | apply Put.tail)) (by repeat (first | exact PutSeg.one | apply PutSeg.skip | apply PutSeg.next | exact PutSeg.inner rfl)) ?_) | (refine WL_store_agg rfl rfl rfl (by repeat (first | exact .head | apply Pick.tail | apply Put.tail)) (by repeat (first | exact PutSeg.one | apply PutSeg.skip | apply PutSeg.next | exact PutSeg.inner rfl)) ?_))
      (repeat (first | (refine WC_seq ?_) | (refine WC_region ?_) | (refine WL_nil ?_) | (refine QX_then ?_) | (refine WL_val rfl rfl rfl (by first | exact val_move rfl | exact val_fieldAddr0 rfl | (apply val_load_blk; exact rfl; (repeat (first | exact .head | apply Pick.tail)); exact rfl) | exact val_gtr rfl rfl) ?_)))
      refine WC_cond rfl (fun ht => ?_) (fun ht => ?_)
      · have h1 := of_decide_eq_true ht
        (repeat (first | (refine WC_seq ?_) | (refine WC_region ?_) | (refine WC_ret ?_) | (refine WL_nil ?_) | (refine QX_then ?_) | (refine QX_then_ret ?_) | (refine QX_block_ret ?_) | (refine WL_val rfl rfl rfl (by exact val_assign rfl) ?_)))
        refine QX_ret (l := [.tmp 2]) rfl (.tmp rfl .nil) ?_
        intro w' hw'
        exact gives false hw' (by simp; intro h; have := h.j; omega) rfl (by repeat (first | exact Sel.nil | refine Sel.cons (by repeat (first | exact .head | apply Pick.tail | apply Put.tail)) ?_))
      · have h1 := of_decide_eq_false ht
        (repeat (first | (refine WC_region ?_) | (refine WC_skip ?_) | (refine WL_nil ?_) | (refine QX_then ?_) | (refine QX_block ?_) | (refine WL_val rfl rfl rfl (by first | exact val_move rfl | (apply val_addI; exact rfl; exact rfl; omega; omega)) ?_)))
        exact QX_againS (1 + 1) (by omega) (by omega) ⟨rfl, rfl, rfl, rfl, trivial⟩ (by repeat (first | exact Sel.nil | refine Sel.cons (by repeat (first | exact .head | apply Pick.tail | apply Put.tail)) ?_))
    · (repeat (first | (refine WC_seq ?_) | (refine WC_block ?_) | (refine WC_region ?_) | (refine WC_skip ?_) | (refine QX_then ?_)))
      refine WL_val rfl rfl rfl (val_indexS (q' := ckS x.final) rfl rfl (by decide) (by decide) inferInstance rfl) ?_
      (first | (refine WL_alloc rfl rfl (fun b6 => ?_)) | (refine WL_box_agg rfl rfl rfl inferInstance (fun b6 => ?_)) | (refine WL_box rfl rfl rfl rfl (fun b6 => ?_)))
      (first | (refine WL_store rfl rfl rfl rfl (by repeat (first | exact .head | apply Pick.tail | apply Put.tail)) (by repeat (first | exact PutSeg.one | apply PutSeg.skip | apply PutSeg.next | exact PutSeg.inner rfl)) ?_) | (refine WL_store_agg rfl rfl rfl (by repeat (first | exact .head | apply Pick.tail | apply Put.tail)) (by repeat (first | exact PutSeg.one | apply PutSeg.skip | apply PutSeg.next | exact PutSeg.inner rfl)) ?_))
      (repeat (first | (refine WC_seq ?_) | (refine WC_region ?_) | (refine WL_nil ?_) | (refine QX_then ?_) | (refine WL_val rfl rfl rfl (by first | exact val_move rfl | exact val_fieldAddr0 rfl | (apply val_load_blk; exact rfl; (repeat (first | exact .head | apply Pick.tail)); exact rfl) | exact val_gtr rfl rfl) ?_)))
      refine WC_cond rfl (fun ht => ?_) (fun ht => ?_)
      · have h1 := of_decide_eq_true ht
        (repeat (first | (refine WC_seq ?_) | (refine WC_region ?_) | (refine WC_ret ?_) | (refine WL_nil ?_) | (refine QX_then ?_) | (refine QX_then_ret ?_) | (refine QX_block_ret ?_) | (refine WL_val rfl rfl rfl (by exact val_assign rfl) ?_)))
        refine QX_ret (l := [.tmp 2]) rfl (.tmp rfl .nil) ?_
        intro w' hw'
        exact gives false hw' (by simp; intro h; have := h.f; omega) rfl (by repeat (first | exact Sel.nil | refine Sel.cons (by repeat (first | exact .head | apply Pick.tail | apply Put.tail)) ?_))
      · have h1 := of_decide_eq_false ht
        (repeat (first | (refine WC_region ?_) | (refine WC_skip ?_) | (refine WL_nil ?_) | (refine QX_then ?_) | (refine QX_block ?_) | (refine WL_val rfl rfl rfl (by first | exact val_move rfl | (apply val_addI; exact rfl; exact rfl; omega; omega)) ?_)))
        exact QX_againS (2 + 1) (by omega) (by omega) ⟨rfl, rfl, rfl, rfl, trivial⟩ (by repeat (first | exact Sel.nil | refine Sel.cons (by repeat (first | exact .head | apply Pick.tail | apply Put.tail)) ?_))
  obtain rfl : i = 3 := by have := of_decide_eq_false ht; omega
  clear ht
  obtain ⟨_, k1, k2, k3⟩ := hi
  have k1 := k1 (by decide)
  have k2 := k2 (by decide)
  have k3 := k3 (by decide)
  (repeat (first | (refine WC_seq ?_) | (refine WC_block ?_) | (refine WC_region ?_) | (refine WC_exit ?_) | (refine WL_nil ?_) | (refine QX_then ?_) | (refine QX_then_exit ?_) | (refine QX_block_exit ?_) | (refine WL_val rfl rfl rfl (by first | exact val_move rfl | exact val_fieldAddr0 rfl | (apply val_load_blk; exact rfl; (repeat (first | exact .head | apply Pick.tail)); exact rfl) | exact val_len rfl) ?_)))
  refine WC_loopS (G := Nat) (fun i => i ≤ x.validators.length ∧ ∀ k (h : k < x.validators.length), k < i → ValRight x.validators[k])
    (fun i => [(1, .pointer (some ⟨b1, 0, none⟩)), (93, a.validators.sl x.validators.length), (94, .int .i64 x.validators.length), (95, .int .i64 i)]) (fun _ => [.blk b1 (stateS x a) 49]) (fun i => x.validators.length - i) 0
    ⟨Nat.zero_le _, by omega⟩ ⟨rfl, rfl, rfl, rfl, trivial⟩ (by repeat (first | exact Sel.nil | refine Sel.cons (by repeat (first | exact .head | apply Pick.tail | apply Put.tail)) ?_)) ?_
  intro i hi
  obtain ⟨hi, hv⟩ := hi
  (repeat (first | (refine WC_seq ?_) | (refine WC_region ?_) | (refine WL_nil ?_) | (refine QX_then ?_) | (refine WL_val rfl rfl rfl (by exact val_lss rfl rfl) ?_)))
  refine WC_cond rfl (fun ht => ?_) (fun ht => ?_)
  · have hlt : i < x.validators.length := by have := of_decide_eq_true ht; omega
    clear ht
    obtain ⟨b, oo, hp, hr⟩ := SlV.posOld hL.validators.1 hL.validators.2 (by omega) (by decide)
    (repeat (first | (refine WC_seq ?_) | (refine WC_block ?_) | (refine WC_region ?_) | (refine WC_skip ?_) | (refine QX_then ?_)))
    refine WL_val rfl rfl rfl (val_indexAddrP hp rfl rfl hlt) ?_
    refine WL_val rfl rfl rfl (val_load_row (q := valS x.validators[i]) rfl (hr _) (drop_take_flatMap valC 86 _ i hlt (fun _ _ => valC_length _)) (valC_length _)) ?_
    (first | (refine WL_alloc rfl rfl (fun b8 => ?_)) | (refine WL_box_agg rfl rfl rfl inferInstance (fun b8 => ?_)) | (refine WL_box rfl rfl rfl rfl (fun b8 => ?_)))
    (first | (refine WL_store rfl rfl rfl rfl (by repeat (first | exact .head | apply Pick.tail | apply Put.tail)) (by repeat (first | exact PutSeg.one | apply PutSeg.skip | apply PutSeg.next | exact PutSeg.inner rfl)) ?_) | (refine WL_store_agg rfl rfl rfl (by repeat (first | exact .head | apply Pick.tail | apply Put.tail)) (by repeat (first | exact PutSeg.one | apply PutSeg.skip | apply PutSeg.next | exact PutSeg.inner rfl)) ?_))
    generalize hx : x.validators[i] = v
    have hmem : v ∈ x.validators := hx ▸ List.getElem_mem hlt
    have e64 := v.eff.toNat_lt
    (repeat (first | (refine WC_seq ?_) | (refine WC_region ?_) | (refine WL_nil ?_) | (refine QX_then ?_) | (refine WL_val rfl rfl rfl (by first | exact val_move rfl | exact val_fieldAddr0 rfl | (apply val_load_blk; exact rfl; (repeat (first | exact .head | apply Pick.tail)); exact rfl) | exact val_gtr rfl rfl) ?_)))
    refine WL_bool 102 rfl (fun ht => ?_) (fun ht => ?_)
    · have h1 := of_decide_eq_true ht
      (repeat (first | (refine WC_seq ?_) | (refine WC_region ?_) | (refine WC_ret ?_) | (refine WL_nil ?_) | (refine QX_then ?_) | (refine QX_then_ret ?_) | (refine QX_block_ret ?_) | (refine WC_cond_true rfl ?_) | (refine WL_off rfl rfl rfl ?_) | (refine WL_val rfl rfl rfl (by first | exact val_assign rfl | exact val_pick_true rfl rfl) ?_)))
      refine QX_ret (l := [.tmp 2]) rfl (.tmp rfl .nil) ?_
      intro w' hw'
      exact gives false hw' (by simp; intro h; have := (h.vals v hmem).most; omega) rfl (by repeat (first | exact Sel.nil | refine Sel.cons (by repeat (first | exact .head | apply Pick.tail | apply Put.tail)) ?_))
    have q1 := of_decide_eq_false ht
    clear ht
    (repeat (first | (refine WL_nil ?_) | (refine QX_then ?_) | (refine WL_val rfl rfl rfl (by first | exact val_fieldAddr0 rfl | (apply val_load_blk; exact rfl; (repeat (first | exact .head | apply Pick.tail)); exact rfl) | exact val_pick_false rfl rfl | exact val_neq rfl rfl | (apply val_remI; exact rfl; exact rfl; decide; omega)) ?_)))
    refine WC_cond rfl (fun ht => ?_) (fun ht => ?_)
    · have h1 := of_decide_eq_true ht
      (repeat (first | (refine WC_seq ?_) | (refine WC_region ?_) | (refine WC_ret ?_) | (refine WL_nil ?_) | (refine QX_then ?_) | (refine QX_then_ret ?_) | (refine QX_block_ret ?_) | (refine WL_val rfl rfl rfl (by exact val_assign rfl) ?_)))
      refine QX_ret (l := [.tmp 2]) rfl (.tmp rfl .nil) ?_
      intro w' hw'
      exact gives false hw' (by simp; intro h; have := (h.vals v hmem).whole; omega) rfl (by repeat (first | exact Sel.nil | refine Sel.cons (by repeat (first | exact .head | apply Pick.tail | apply Put.tail)) ?_))
    have q2 := of_decide_eq_false ht
    clear ht
    (repeat (first | (refine WC_seq ?_) | (refine WC_region ?_) | (refine WC_skip ?_) | (refine QX_then ?_) | (refine WL_val rfl rfl rfl (by first | exact val_fieldAddr0 rfl | (apply val_load_blk; exact rfl; (repeat (first | exact .head | apply Pick.tail)); exact rfl)) ?_)))
    refine WL_val rfl rfl rfl (val_buildArr (vs := [(0, u64 v.elig), (1, u64 v.act), (2, u64 v.exit), (3, u64 v.wd)]) (q' := ep4S v) rfl ?_) ?_
    · exact .cons (off := 0) (k := 1) (new := [(1, [u64 v.elig])]) rfl rfl inferInstance (by repeat (first | exact PutSeg.one | apply PutSeg.skip | apply PutSeg.next | exact PutSeg.inner rfl)) (.cons (off := 1) (k := 1) (new := [(1, [u64 v.act])]) rfl rfl inferInstance (by repeat (first | exact PutSeg.one | apply PutSeg.skip | apply PutSeg.next | exact PutSeg.inner rfl)) (.cons (off := 2) (k := 1) (new := [(1, [u64 v.exit])]) rfl rfl inferInstance (by repeat (first | exact PutSeg.one | apply PutSeg.skip | apply PutSeg.next | exact PutSeg.inner rfl)) (.cons (off := 3) (k := 1) (new := [(1, [u64 v.wd])]) rfl rfl inferInstance (by repeat (first | exact PutSeg.one | apply PutSeg.skip | apply PutSeg.next | exact PutSeg.inner rfl)) .nil)))
    (repeat (first | (refine WC_block ?_) | (refine WL_nil ?_) | (refine QX_then ?_) | (refine WL_val rfl rfl rfl (by exact val_move rfl) ?_)))
    refine WC_loopS (G := Nat) (fun k => k ≤ 4 ∧ (0 < k → EpOk v.elig) ∧ (1 < k → EpOk v.act) ∧ (2 < k → EpOk v.exit) ∧ (3 < k → EpOk v.wd))
      (fun k => [(1, .pointer (some ⟨b1, 0, none⟩)), (93, a.validators.sl x.validators.length), (94, .int .i64 x.validators.length), (95, .int .i64 i), (116, aggS (ep4S v)), (117, .int .i64 k)]) (fun _ => [.blk b1 (stateS x a) 49]) (fun k => 4 - k) 0
      ⟨by decide, by omega, by omega, by omega, by omega⟩ ⟨rfl, rfl, rfl, rfl, rfl, rfl, trivial⟩ (by repeat (first | exact Sel.nil | refine Sel.cons (by repeat (first | exact .head | apply Pick.tail | apply Put.tail)) ?_)) ?_
    intro k hk
    (repeat (first | (refine WC_seq ?_) | (refine WC_region ?_) | (refine WL_nil ?_) | (refine QX_then ?_) | (refine WL_val rfl rfl rfl (by exact val_lss rfl rfl) ?_)))
    refine WC_cond rfl (fun ht => ?_) (fun ht => ?_)
    · have hlt : k < 4 := by have := of_decide_eq_true ht; omega
      clear ht
      obtain rfl | rfl | rfl | rfl : k = 0 ∨ k = 1 ∨ k = 2 ∨ k = 3 := by omega
      · (repeat (first | (refine WC_seq ?_) | (refine WC_block ?_) | (refine WC_region ?_) | (refine WC_skip ?_) | (refine QX_then ?_)))
        refine WL_val rfl rfl rfl (val_indexS1 (v := u64 v.elig) rfl rfl (by decide) (by decide) inferInstance rfl) ?_
        (repeat (first | (refine WC_seq ?_) | (refine WC_region ?_) | (refine WL_nil ?_) | (refine QX_then ?_) | (refine WL_val rfl rfl rfl (by first | exact val_move rfl | exact val_assign rfl | exact val_neq rfl rfl) ?_)))
        refine WL_bool 122 rfl (fun ht => ?_) (fun ht => ?_)
        · have h1 := of_decide_eq_true ht
          (repeat (first | (refine WL_nil ?_) | (refine QX_then ?_) | (refine WL_val rfl rfl rfl (by first | exact val_move rfl | exact val_pick_true rfl rfl | exact val_geq rfl rfl) ?_)))
          refine WC_cond rfl (fun ht => ?_) (fun ht => ?_)
          · have h2 := of_decide_eq_true ht
            (repeat (first | (refine WC_seq ?_) | (refine WC_region ?_) | (refine WC_ret ?_) | (refine WL_nil ?_) | (refine QX_then ?_) | (refine QX_then_ret ?_) | (refine QX_block_ret ?_) | (refine WL_val rfl rfl rfl (by exact val_assign rfl) ?_)))
            refine QX_ret (l := [.tmp 2]) rfl (.tmp rfl .nil) ?_
            intro w' hw'
            exact gives false hw' (by simp; intro h; rcases (h.vals v hmem).elig with h | h <;> omega) rfl (by repeat (first | exact Sel.nil | refine Sel.cons (by repeat (first | exact .head | apply Pick.tail | apply Put.tail)) ?_))
          · have h2 := of_decide_eq_false ht
            (repeat (first | (refine WC_region ?_) | (refine WC_skip ?_) | (refine WL_nil ?_) | (refine QX_then ?_) | (refine QX_block ?_) | (refine WL_val rfl rfl rfl (by first | exact val_move rfl | (apply val_addI; exact rfl; exact rfl; omega; omega)) ?_)))
            exact QX_againS (0 + 1) (by have : EpOk v.elig := .inr (by omega); simp_all) (by omega) ⟨rfl, rfl, rfl, rfl, rfl, rfl, trivial⟩ (by repeat (first | exact Sel.nil | refine Sel.cons (by repeat (first | exact .head | apply Pick.tail | apply Put.tail)) ?_))
        · have h1 := of_decide_eq_false ht
          (repeat (first | (refine WC_region ?_) | (refine WC_skip ?_) | (refine WL_nil ?_) | (refine QX_then ?_) | (refine QX_block ?_) | (refine WC_cond_false rfl ?_) | (refine WL_off rfl rfl rfl ?_) | (refine WL_val rfl rfl rfl (by first | exact val_move rfl | exact val_pick_false rfl rfl | (apply val_addI; exact rfl; exact rfl; omega; omega)) ?_)))
          exact QX_againS (0 + 1) (by have : EpOk v.elig := .inl (by omega); simp_all) (by omega) ⟨rfl, rfl, rfl, rfl, rfl, rfl, trivial⟩ (by repeat (first | exact Sel.nil | refine Sel.cons (by repeat (first | exact .head | apply Pick.tail | apply Put.tail)) ?_))
      · (repeat (first | (refine WC_seq ?_) | (refine WC_block ?_) | (refine WC_region ?_) | (refine WC_skip ?_) | (refine QX_then ?_)))
        refine WL_val rfl rfl rfl (val_indexS1 (v := u64 v.act) rfl rfl (by decide) (by decide) inferInstance rfl) ?_
        (repeat (first | (refine WC_seq ?_) | (refine WC_region ?_) | (refine WL_nil ?_) | (refine QX_then ?_) | (refine WL_val rfl rfl rfl (by first | exact val_move rfl | exact val_assign rfl | exact val_neq rfl rfl) ?_)))
        refine WL_bool 122 rfl (fun ht => ?_) (fun ht => ?_)
        · have h1 := of_decide_eq_true ht
          (repeat (first | (refine WL_nil ?_) | (refine QX_then ?_) | (refine WL_val rfl rfl rfl (by first | exact val_move rfl | exact val_pick_true rfl rfl | exact val_geq rfl rfl) ?_)))
          refine WC_cond rfl (fun ht => ?_) (fun ht => ?_)
          · have h2 := of_decide_eq_true ht
            (repeat (first | (refine WC_seq ?_) | (refine WC_region ?_) | (refine WC_ret ?_) | (refine WL_nil ?_) | (refine QX_then ?_) | (refine QX_then_ret ?_) | (refine QX_block_ret ?_) | (refine WL_val rfl rfl rfl (by exact val_assign rfl) ?_)))
            refine QX_ret (l := [.tmp 2]) rfl (.tmp rfl .nil) ?_
            intro w' hw'
            exact gives false hw' (by simp; intro h; rcases (h.vals v hmem).act with h | h <;> omega) rfl (by repeat (first | exact Sel.nil | refine Sel.cons (by repeat (first | exact .head | apply Pick.tail | apply Put.tail)) ?_))
          · have h2 := of_decide_eq_false ht
            (repeat (first | (refine WC_region ?_) | (refine WC_skip ?_) | (refine WL_nil ?_) | (refine QX_then ?_) | (refine QX_block ?_) | (refine WL_val rfl rfl rfl (by first | exact val_move rfl | (apply val_addI; exact rfl; exact rfl; omega; omega)) ?_)))
            exact QX_againS (1 + 1) (by have : EpOk v.act := .inr (by omega); simp_all) (by omega) ⟨rfl, rfl, rfl, rfl, rfl, rfl, trivial⟩ (by repeat (first | exact Sel.nil | refine Sel.cons (by repeat (first | exact .head | apply Pick.tail | apply Put.tail)) ?_))
        · have h1 := of_decide_eq_false ht
          (repeat (first | (refine WC_region ?_) | (refine WC_skip ?_) | (refine WL_nil ?_) | (refine QX_then ?_) | (refine QX_block ?_) | (refine WC_cond_false rfl ?_) | (refine WL_off rfl rfl rfl ?_) | (refine WL_val rfl rfl rfl (by first | exact val_move rfl | exact val_pick_false rfl rfl | (apply val_addI; exact rfl; exact rfl; omega; omega)) ?_)))
          exact QX_againS (1 + 1) (by have : EpOk v.act := .inl (by omega); simp_all) (by omega) ⟨rfl, rfl, rfl, rfl, rfl, rfl, trivial⟩ (by repeat (first | exact Sel.nil | refine Sel.cons (by repeat (first | exact .head | apply Pick.tail | apply Put.tail)) ?_))
      · (repeat (first | (refine WC_seq ?_) | (refine WC_block ?_) | (refine WC_region ?_) | (refine WC_skip ?_) | (refine QX_then ?_)))
        refine WL_val rfl rfl rfl (val_indexS1 (v := u64 v.exit) rfl rfl (by decide) (by decide) inferInstance rfl) ?_
        (repeat (first | (refine WC_seq ?_) | (refine WC_region ?_) | (refine WL_nil ?_) | (refine QX_then ?_) | (refine WL_val rfl rfl rfl (by first | exact val_move rfl | exact val_assign rfl | exact val_neq rfl rfl) ?_)))
        refine WL_bool 122 rfl (fun ht => ?_) (fun ht => ?_)
        · have h1 := of_decide_eq_true ht
          (repeat (first | (refine WL_nil ?_) | (refine QX_then ?_) | (refine WL_val rfl rfl rfl (by first | exact val_move rfl | exact val_pick_true rfl rfl | exact val_geq rfl rfl) ?_)))
          refine WC_cond rfl (fun ht => ?_) (fun ht => ?_)
          · have h2 := of_decide_eq_true ht
            (repeat (first | (refine WC_seq ?_) | (refine WC_region ?_) | (refine WC_ret ?_) | (refine WL_nil ?_) | (refine QX_then ?_) | (refine QX_then_ret ?_) | (refine QX_block_ret ?_) | (refine WL_val rfl rfl rfl (by exact val_assign rfl) ?_)))
            refine QX_ret (l := [.tmp 2]) rfl (.tmp rfl .nil) ?_
            intro w' hw'
            exact gives false hw' (by simp; intro h; rcases (h.vals v hmem).exit with h | h <;> omega) rfl (by repeat (first | exact Sel.nil | refine Sel.cons (by repeat (first | exact .head | apply Pick.tail | apply Put.tail)) ?_))
          · have h2 := of_decide_eq_false ht
            (repeat (first | (refine WC_region ?_) | (refine WC_skip ?_) | (refine WL_nil ?_) | (refine QX_then ?_) | (refine QX_block ?_) | (refine WL_val rfl rfl rfl (by first | exact val_move rfl | (apply val_addI; exact rfl; exact rfl; omega; omega)) ?_)))
            exact QX_againS (2 + 1) (by have : EpOk v.exit := .inr (by omega); simp_all) (by omega) ⟨rfl, rfl, rfl, rfl, rfl, rfl, trivial⟩ (by repeat (first | exact Sel.nil | refine Sel.cons (by repeat (first | exact .head | apply Pick.tail | apply Put.tail)) ?_))
        · have h1 := of_decide_eq_false ht
          (repeat (first | (refine WC_region ?_) | (refine WC_skip ?_) | (refine WL_nil ?_) | (refine QX_then ?_) | (refine QX_block ?_) | (refine WC_cond_false rfl ?_) | (refine WL_off rfl rfl rfl ?_) | (refine WL_val rfl rfl rfl (by first | exact val_move rfl | exact val_pick_false rfl rfl | (apply val_addI; exact rfl; exact rfl; omega; omega)) ?_)))
          exact QX_againS (2 + 1) (by have : EpOk v.exit := .inl (by omega); simp_all) (by omega) ⟨rfl, rfl, rfl, rfl, rfl, rfl, trivial⟩ (by repeat (first | exact Sel.nil | refine Sel.cons (by repeat (first | exact .head | apply Pick.tail | apply Put.tail)) ?_))
      · (repeat (first | (refine WC_seq ?_) | (refine WC_block ?_) | (refine WC_region ?_) | (refine WC_skip ?_) | (refine QX_then ?_)))
        refine WL_val rfl rfl rfl (val_indexS1 (v := u64 v.wd) rfl rfl (by decide) (by decide) inferInstance rfl) ?_
        (repeat (first | (refine WC_seq ?_) | (refine WC_region ?_) | (refine WL_nil ?_) | (refine QX_then ?_) | (refine WL_val rfl rfl rfl (by first | exact val_move rfl | exact val_assign rfl | exact val_neq rfl rfl) ?_)))
        refine WL_bool 122 rfl (fun ht => ?_) (fun ht => ?_)
        · have h1 := of_decide_eq_true ht
          (repeat (first | (refine WL_nil ?_) | (refine QX_then ?_) | (refine WL_val rfl rfl rfl (by first | exact val_move rfl | exact val_pick_true rfl rfl | exact val_geq rfl rfl) ?_)))
          refine WC_cond rfl (fun ht => ?_) (fun ht => ?_)
          · have h2 := of_decide_eq_true ht
            (repeat (first | (refine WC_seq ?_) | (refine WC_region ?_) | (refine WC_ret ?_) | (refine WL_nil ?_) | (refine QX_then ?_) | (refine QX_then_ret ?_) | (refine QX_block_ret ?_) | (refine WL_val rfl rfl rfl (by exact val_assign rfl) ?_)))
            refine QX_ret (l := [.tmp 2]) rfl (.tmp rfl .nil) ?_
            intro w' hw'
            exact gives false hw' (by simp; intro h; rcases (h.vals v hmem).wd with h | h <;> omega) rfl (by repeat (first | exact Sel.nil | refine Sel.cons (by repeat (first | exact .head | apply Pick.tail | apply Put.tail)) ?_))
          · have h2 := of_decide_eq_false ht
            (repeat (first | (refine WC_region ?_) | (refine WC_skip ?_) | (refine WL_nil ?_) | (refine QX_then ?_) | (refine QX_block ?_) | (refine WL_val rfl rfl rfl (by first | exact val_move rfl | (apply val_addI; exact rfl; exact rfl; omega; omega)) ?_)))
            exact QX_againS (3 + 1) (by have : EpOk v.wd := .inr (by omega); simp_all) (by omega) ⟨rfl, rfl, rfl, rfl, rfl, rfl, trivial⟩ (by repeat (first | exact Sel.nil | refine Sel.cons (by repeat (first | exact .head | apply Pick.tail | apply Put.tail)) ?_))
        · have h1 := of_decide_eq_false ht
          (repeat (first | (refine WC_region ?_) | (refine WC_skip ?_) | (refine WL_nil ?_) | (refine QX_then ?_) | (refine QX_block ?_) | (refine WC_cond_false rfl ?_) | (refine WL_off rfl rfl rfl ?_) | (refine WL_val rfl rfl rfl (by first | exact val_move rfl | exact val_pick_false rfl rfl | (apply val_addI; exact rfl; exact rfl; omega; omega)) ?_)))
          exact QX_againS (3 + 1) (by have : EpOk v.wd := .inl (by omega); simp_all) (by omega) ⟨rfl, rfl, rfl, rfl, rfl, rfl, trivial⟩ (by repeat (first | exact Sel.nil | refine Sel.cons (by repeat (first | exact .head | apply Pick.tail | apply Put.tail)) ?_))
    obtain rfl : k = 4 := by have := of_decide_eq_false ht; omega
    clear ht
    obtain ⟨_, j1, j2, j3, j4⟩ := hk
    (repeat (first | (refine WC_region ?_) | (refine WC_exit ?_) | (refine WL_nil ?_) | (refine QX_then ?_) | (refine QX_then_exit ?_) | (refine QX_block ?_) | (refine QX_block_exit ?_) | (refine WL_val rfl rfl rfl (by first | exact val_move rfl | (apply val_addI; exact rfl; exact rfl; omega; omega)) ?_)))
    refine QX_againS (i + 1) ⟨by omega, fun k hk hki => ?_⟩ (by omega) ⟨rfl, rfl, rfl, rfl, trivial⟩ (by repeat (first | exact Sel.nil | refine Sel.cons (by repeat (first | exact .head | apply Pick.tail | apply Put.tail)) ?_))
    rcases Nat.lt_or_ge k i with h | h
    · exact hv k hk h
    · obtain rfl : k = i := by omega
      rw [hx]
      exact ⟨by omega, by omega, j1 (by decide), j2 (by decide), j3 (by decide), j4 (by decide)⟩
  obtain rfl : i = x.validators.length := by have := of_decide_eq_false ht; omega
  clear ht
  have hv' : ∀ v ∈ x.validators, ValRight v := fun v hm => by
    obtain ⟨k, hk, rfl⟩ := List.getElem_of_mem hm
    exact hv k hk hk
  clear hv
  (repeat (first | (refine WC_seq ?_) | (refine WC_block ?_) | (refine WC_region ?_) | (refine WC_exit ?_) | (refine WL_nil ?_) | (refine QX_then ?_) | (refine QX_then_exit ?_) | (refine QX_block_exit ?_) | (refine WL_val rfl rfl rfl (by first | exact val_move rfl | exact val_fieldAddr0 rfl | (apply val_load_blk; exact rfl; (repeat (first | exact .head | apply Pick.tail)); exact rfl) | exact val_len rfl) ?_)))
  refine WC_loopS (G := Nat) (fun i => i ≤ x.scores.length ∧ ∀ k (h : k < x.scores.length), k < i → x.scores[k].toNat ≤ 1099511627776)
    (fun i => [(1, .pointer (some ⟨b1, 0, none⟩)), (129, a.scores.sl x.scores.length), (130, .int .i64 x.scores.length), (131, .int .i64 i)]) (fun _ => [.blk b1 (stateS x a) 49]) (fun i => x.scores.length - i) 0
    ⟨Nat.zero_le _, by omega⟩ ⟨rfl, rfl, rfl, rfl, trivial⟩ (by repeat (first | exact Sel.nil | refine Sel.cons (by repeat (first | exact .head | apply Pick.tail | apply Put.tail)) ?_)) ?_
  intro i hi
  obtain ⟨hi, hv⟩ := hi
  (repeat (first | (refine WC_seq ?_) | (refine WC_region ?_) | (refine WL_nil ?_) | (refine QX_then ?_) | (refine WL_val rfl rfl rfl (by exact val_lss rfl rfl) ?_)))
  refine WC_cond rfl (fun ht => ?_) (fun ht => ?_)
  · have hlt : i < x.scores.length := by have := of_decide_eq_true ht; omega
    clear ht
    obtain ⟨b, oo, hp, hr⟩ := SlV.posOld hL.scores.1 hL.scores.2 (by omega) (by decide)
    (repeat (first | (refine WC_seq ?_) | (refine WC_block ?_) | (refine WC_region ?_) | (refine WC_skip ?_) | (refine QX_then ?_)))
    refine WL_val rfl rfl rfl (val_indexAddrP1 hp rfl rfl hlt) ?_
    refine WL_val rfl rfl rfl (val_load_at (v := u64 x.scores[i]) rfl (hr _) (by simp [hlt])) ?_
    (repeat (first | (refine WC_seq ?_) | (refine WC_region ?_) | (refine WL_nil ?_) | (refine QX_then ?_) | (refine WL_val rfl rfl rfl (by first | exact val_move rfl | exact val_assign rfl | exact val_gtr rfl rfl) ?_)))
    refine WC_cond rfl (fun ht => ?_) (fun ht => ?_)
    · have h1 := of_decide_eq_true ht
      (repeat (first | (refine WC_seq ?_) | (refine WC_region ?_) | (refine WC_ret ?_) | (refine WL_nil ?_) | (refine QX_then ?_) | (refine QX_then_ret ?_) | (refine QX_block_ret ?_) | (refine WL_val rfl rfl rfl (by exact val_assign rfl) ?_)))
      refine QX_ret (l := [.tmp 2]) rfl (.tmp rfl .nil) ?_
      intro w' hw'
      exact gives false hw' (by simp; intro h; have := h.scores _ (List.getElem_mem hlt); omega) rfl (by repeat (first | exact Sel.nil | refine Sel.cons (by repeat (first | exact .head | apply Pick.tail | apply Put.tail)) ?_))
    have h1 := of_decide_eq_false ht
    (repeat (first | (refine WC_region ?_) | (refine WC_skip ?_) | (refine WL_nil ?_) | (refine QX_then ?_) | (refine QX_block ?_) | (refine WL_val rfl rfl rfl (by first | exact val_move rfl | (apply val_addI; exact rfl; exact rfl; omega; omega)) ?_)))
    refine QX_againS (i + 1) ⟨by omega, fun k hk hki => ?_⟩ (by omega) ⟨rfl, rfl, rfl, rfl, trivial⟩ (by repeat (first | exact Sel.nil | refine Sel.cons (by repeat (first | exact .head | apply Pick.tail | apply Put.tail)) ?_))
    rcases Nat.lt_or_ge k i with h | h
    · exact hv k hk h
    · obtain rfl : k = i := by omega
      omega
  obtain rfl : i = x.scores.length := by have := of_decide_eq_false ht; omega
  clear ht
  have hs' : ∀ v ∈ x.scores, v.toNat ≤ 1099511627776 := fun v hm => by
    obtain ⟨k, hk, rfl⟩ := List.getElem_of_mem hm
    exact hv k hk hk
  (repeat (first | (refine WC_seq ?_) | (refine WC_region ?_) | (refine WC_exit ?_) | (refine QX_then ?_) | (refine QX_then_exit ?_) | (refine QX_block_exit ?_) | (refine WL_val rfl rfl rfl (by first | exact val_fieldAddr0 rfl | (apply val_load_blk; exact rfl; (repeat (first | exact .head | apply Pick.tail)); exact rfl)) ?_)))
  refine WL_call rfl rfl rfl .nil (fun w' hw' _ => stateFew w' _ x.balances (hL.balances.pass hw' Take.nil).1 (by omega)) (fun _ _ => ?_)
  (repeat (refine WL_val rfl rfl rfl (by first | exact val_move rfl | exact val_fieldAddr0 rfl) ?_))
  refine WL_bool 141 rfl (fun ht => ?_) (fun ht => ?_)
  · have h1 := of_decide_eq_true ht
    clear ht
    (repeat (refine WL_val rfl rfl rfl (by first | exact val_fieldAddr0 rfl | exact val_slice_arr rfl) ?_))
    refine WL_call rfl rfl rfl .nil (fun w' hw' _ => stateFew w' _ x.slashings.toList ?_ (by simp)) (fun _ _ => ?_)
    · have := SlRd.blk (S := []) (w0 := w) (b := b1) (o := 979) (c := 8) (sz := 1) (k := 8) (m := 8) (vs := x.slashings.toList.map u64) (Γ := [.blk b1 (stateS x a) 49]) .head (by exact rfl) rfl (Nat.le_refl _) (by simp)
      simpa using this.at hw'
    refine WL_bool 144 rfl (fun ht => ?_) (fun ht => ?_)
    · have h2 := of_decide_eq_true ht
      (repeat (first | (refine WC_ret ?_) | (refine WL_nil ?_) | (refine QX_then ?_) | (refine WL_val rfl rfl rfl (by first | exact val_assign rfl | exact val_pick_true rfl rfl) ?_)))
      refine QX_ret (l := [.tmp 2]) rfl (.tmp rfl .nil) ?_
      intro w' hw'
      exact gives true hw' (by simp; exact ⟨by omega, by omega, by omega, by omega, by omega, by omega, by omega, by omega, by omega, by omega, k1, k2, k3, hv', hs', h1, h2⟩) rfl (by repeat (first | exact Sel.nil | refine Sel.cons (by repeat (first | exact .head | apply Pick.tail | apply Put.tail)) ?_))
    · have h2 := of_decide_eq_false ht
      (repeat (first | (refine WC_ret ?_) | (refine WL_nil ?_) | (refine QX_then ?_) | (refine WL_val rfl rfl rfl (by first | exact val_assign rfl | exact val_pick_true rfl rfl) ?_)))
      refine QX_ret (l := [.tmp 2]) rfl (.tmp rfl .nil) ?_
      intro w' hw'
      exact gives false hw' (by simp; intro h; exact h2 h.slash) rfl (by repeat (first | exact Sel.nil | refine Sel.cons (by repeat (first | exact .head | apply Pick.tail | apply Put.tail)) ?_))
  · have h1 := of_decide_eq_false ht
    (repeat (first | (refine WC_ret ?_) | (refine WL_nil ?_) | (refine QX_then ?_) | (refine WL_off rfl rfl rfl ?_) | (refine WL_val rfl rfl rfl (by first | exact val_assign rfl | exact val_pick_false rfl rfl) ?_)))
    refine QX_ret (l := [.tmp 2]) rfl (.tmp rfl .nil) ?_
    intro w' hw'
    exact gives false hw' (by simp; intro h; exact h1 h.bal) rfl (by repeat (first | exact Sel.nil | refine Sel.cons (by repeat (first | exact .head | apply Pick.tail | apply Put.tail)) ?_))
end Go.PK

/- The fixed answers (awake of layer 10's laws). -/
namespace Go.PK
open Go.Proofs

def Vector.zeros (n : Nat) : Vector UInt8 n := Vector.replicate n 0
abbrev zRoot : Root := Vector.zeros 32
abbrev zCk : Checkpoint := ⟨0, zRoot⟩
abbrev zComm : Committee := ⟨Vector.replicate 8 (Vector.zeros 48), Vector.zeros 48⟩
/-- the zero state -/
def StateD.zero : StateD where
  genesis := 0
  groot := zRoot
  slot := 0
  fork := ⟨Vector.zeros 4, Vector.zeros 4, 0⟩
  header := ⟨0, 0, zRoot, zRoot, zRoot⟩
  blockRoots := Vector.replicate 8 zRoot
  stateRoots := Vector.replicate 8 zRoot
  history := []
  eth1 := ⟨zRoot, 0, zRoot⟩
  votes := []
  deposits := 0
  validators := []
  balances := []
  mixes := Vector.replicate 8 zRoot
  slashings := Vector.replicate 8 0
  previous := []
  current := []
  bits := Vector.replicate 4 false
  oldJust := zCk
  just := zCk
  final := zCk
  scores := []
  sync := zComm
  nextSync := zComm
def PC.none : PC := ⟨Option.none, 0⟩
def Addrs.none : Addrs := ⟨.none, .none, .none, .none, .none, .none, .none⟩

theorem bv_zeros (n : Nat) : bv (Vector.zeros n) = List.replicate n (.int .u8 0) := by simp [bv, Vector.zeros, bs]
theorem rootsV_zeros (n k : Nat) : rootsV (Vector.replicate k (Vector.zeros n)) = List.replicate (k * n) (.int .u8 0) := by
  have key : ∀ k : Nat, (List.replicate k (Vector.zeros n)).flatMap bv = List.replicate (k * n) (.int .u8 0) := by
    intro k
    induction k with
    | zero => simp
    | succ k ih => rw [List.replicate_succ, List.flatMap_cons, ih, bv_zeros, List.replicate_append_replicate]; congr 1; rw [Nat.add_mul]; omega
  simpa [rootsV] using key k

theorem ListsAt.nil {w : World} {S : List Nat} {x : StateD} (h1 : x.history = []) (h2 : x.votes = []) (h3 : x.validators = []) (h4 : x.balances = []) (h5 : x.previous = []) (h6 : x.current = []) (h7 : x.scores = []) : ListsAt w S x Addrs.none := by
  refine ⟨?_, ?_, ?_, ?_, ?_, ?_, ?_⟩ <;> simp only [h1, h2, h3, h4, h5, h6, h7] <;> exact ⟨.nil, .inl rfl⟩

theorem stAll_err (x : StateD) (h : x.Fits) : (stAll x).err = 0 := by rw [stAll_toks x h, run_err]; rfl

/-- the zero state but for its slot -/
def StateD.atSlot (n : UInt64) : StateD := { StateD.zero with slot := n }
theorem zero_right : StateD.zero.Right := by
  refine ⟨?_, ?_, ?_, ?_, ?_, ?_, ?_, ?_, ?_, ?_, ?_, ?_, ?_, ?_, ?_, ?_, ?_⟩ <;> first | decide | (intro v hv; cases hv) | (simp [StateD.zero, sumU])
theorem at_fits (n : UInt64) : (StateD.atSlot n).Fits := ⟨by simp [StateD.atSlot, StateD.zero], by simp [StateD.atSlot, StateD.zero], by simp [StateD.atSlot, StateD.zero], by simp [StateD.atSlot, StateD.zero], by simp [StateD.atSlot, StateD.zero], by simp [StateD.atSlot, StateD.zero], by simp [StateD.atSlot, StateD.zero]⟩
theorem at_small (n : UInt64) : (StateD.atSlot n).Small := ⟨by simp [StateD.atSlot, StateD.zero], by simp [StateD.atSlot, StateD.zero], by simp [StateD.atSlot, StateD.zero], by simp [StateD.atSlot, StateD.zero], by simp [StateD.atSlot, StateD.zero], by simp [StateD.atSlot, StateD.zero], by simp [StateD.atSlot, StateD.zero]⟩
theorem at_len (n : UInt64) : (encState (StateD.atSlot n)).length = 2101 := by rw [encState_length _ (at_fits n)]; simp [stEnd, StateD.atSlot, StateD.zero]

/-- the zero state's cells, but for its slot and balances -/
abbrev zeroS (n : UInt64) (bal : Value) : List Seg :=
  [(1, [.int .u64 0]), (32, List.replicate 32 (.int .u8 0)), (1, [u64 n]), (4, List.replicate 4 (.int .u8 0)), (4, List.replicate 4 (.int .u8 0)), (1, [.int .u64 0]), (1, [.int .u64 0]), (1, [.int .u64 0]), (32, List.replicate 32 (.int .u8 0)), (32, List.replicate 32 (.int .u8 0)), (32, List.replicate 32 (.int .u8 0)),
   (256, List.replicate 256 (.int .u8 0)), (256, List.replicate 256 (.int .u8 0)), (1, [.slice none 0 0]), (32, List.replicate 32 (.int .u8 0)), (1, [.int .u64 0]), (32, List.replicate 32 (.int .u8 0)), (1, [.slice none 0 0]), (1, [.int .u64 0]), (1, [.slice none 0 0]), (1, [bal]), (256, List.replicate 256 (.int .u8 0)), (8, List.replicate 8 (.int .u64 0)),
   (1, [.slice none 0 0]), (1, [.slice none 0 0]), (4, List.replicate 4 (.bool false)), (1, [.int .u64 0]), (32, List.replicate 32 (.int .u8 0)), (1, [.int .u64 0]), (32, List.replicate 32 (.int .u8 0)), (1, [.int .u64 0]), (32, List.replicate 32 (.int .u8 0)), (1, [.slice none 0 0]), (384, List.replicate 384 (.int .u8 0)), (48, List.replicate 48 (.int .u8 0)), (384, List.replicate 384 (.int .u8 0)), (48, List.replicate 48 (.int .u8 0))]
theorem zeroS_eq (n : UInt64) : zeroS n (.slice none 0 0) = stateS (StateD.atSlot n) Addrs.none := by
  simp only [stateS, StateD.atSlot, StateD.zero, bv_zeros, rootsV_zeros, Addrs.none, PC.none, PC.sl, List.length_nil]
  rfl
theorem zeroS_bal (l : List UInt64) (p : PC) : zeroS 0 (p.sl l.length) = stateS { StateD.zero with balances := l } { Addrs.none with balances := p } := by
  simp only [stateS, StateD.zero, bv_zeros, rootsV_zeros, Addrs.none, PC.none, PC.sl, List.length_nil]
  rfl

set_option maxHeartbeats 4000000 in
theorem law10Awake (w : World) : Calls Try.prog 7 ([] : List Value).toArray w (Gives (fun _ : Unit => True) (fun _ => .bool true) (fun _ => []) [] w) := by
  refine calls_enter (fn := Try.f7) Try.func7 rfl Try.ntmps7 rfl (mem0 w) ?_
  (repeat (first | (refine WC_seq ?_) | (refine WC_region ?_) | (refine WL_val rfl rfl rfl (by exact val_assign rfl) ?_)))
  refine WL_val rfl rfl rfl (val_buildS (vs := [(2, .int .u64 3)]) (q' := zeroS 3 (.slice none 0 0)) rfl (.cons (new := [(1, [.int .u64 3])]) rfl rfl inferInstance (by repeat (first | exact PutSeg.one | apply PutSeg.skip | apply PutSeg.next | exact PutSeg.inner rfl)) .nil)) ?_
  rw [zeroS_eq 3]
  refine WL_call rfl rfl rfl .nil (fun w' _ _ => encStateW w' (.atSlot 3) .none (.nil rfl rfl rfl rfl rfl rfl rfl) (at_small 3)) (fun g _ => ?_)
  obtain ⟨gp, gc⟩ := g
  dsimp only
  have hlen := at_len 3
  rw [stAll_err _ (at_fits 3)]
  refine WL_slPos (p := gp) .head (by omega) (fun gb hgb => ?_)
  subst hgb
  (repeat (first | (refine WC_seq ?_) | (refine WC_region ?_) | (refine WL_val rfl rfl rfl (by first | exact val_move rfl | exact val_assign rfl | exact val_extract rfl rfl) ?_)))
  refine WL_call rfl rfl rfl .nil (fun w' hw' _ => readStateW w' gb 0 gc (.atSlot 3) (at_fits 3) ⟨SlRd.sl .head w' hw', Sep.sl hw' .nil .head⟩) (fun a _ => ?_)
  generalize (encState (StateD.atSlot 3)).length = L at hlen
  (repeat (refine WL_val rfl rfl rfl (by first | exact val_move rfl | exact val_extract rfl rfl) ?_))
  (first | (refine WL_alloc rfl rfl (fun b3 => ?_)) | (refine WL_box_agg rfl rfl rfl inferInstance (fun b3 => ?_)) | (refine WL_box rfl rfl rfl rfl (fun b3 => ?_)))
  refine WL_store_agg (q := stateS (.atSlot 3) a) (segs' := stateS (.atSlot 3) a) rfl rfl rfl .head (by repeat (first | exact PutSeg.one | apply PutSeg.skip | apply PutSeg.next | exact PutSeg.inner rfl)) ?_
  (repeat (first | (refine WC_seq ?_) | (refine WC_region ?_) | (refine WL_val rfl rfl rfl (by first | exact val_move rfl | exact val_assign rfl | exact val_fieldAddr0 rfl | (apply val_load_blk; exact rfl; (repeat (first | exact .head | apply Pick.tail)); exact rfl) | exact val_len rfl | exact val_pick_true rfl rfl | exact val_gtr rfl rfl | exact val_eql rfl rfl) ?_)))
  refine WL_bool 31 rfl (fun _ => ?_) (fun hf => absurd (of_decide_eq_false hf) (by omega))
  skip
  refine WL_val rfl rfl rfl (val_buildS (vs := []) (q' := zeroS 0 (.slice none 0 0)) rfl .nil) ?_
  rw [show zeroS 0 (.slice none 0 0) = stateS StateD.zero Addrs.none from zeroS_eq 0]
  refine WL_call rfl rfl rfl .nil (fun w' _ _ => stateRight w' .zero .none (.nil rfl rfl rfl rfl rfl rfl rfl) (by decide)) (fun r hr => ?_)
  obtain rfl : r = true := hr.2 zero_right
  (repeat (refine WL_val rfl rfl rfl (by first | exact val_move rfl | exact val_pick_true rfl rfl) ?_))
  refine WL_build1 rfl rfl rfl rfl rfl rfl rfl rfl rfl rfl (fun b9 => ?_)
  refine WL_val rfl rfl rfl (val_buildS (vs := [(12, .slice (some ⟨b9, 0, none⟩) 1 1)]) (q' := zeroS 0 (.slice (some ⟨b9, 0, none⟩) 1 1)) rfl (.cons (new := [(1, [.slice (some ⟨b9, 0, none⟩) 1 1])]) rfl rfl inferInstance (by repeat (first | exact PutSeg.one | apply PutSeg.skip | apply PutSeg.next | exact PutSeg.inner rfl)) .nil)) ?_
  rw [show zeroS 0 (.slice (some ⟨b9, 0, none⟩) 1 1) = stateS { StateD.zero with balances := [1] } { Addrs.none with balances := ⟨some ⟨b9, 0, none⟩, 1⟩ } from zeroS_bal [1] ⟨some ⟨b9, 0, none⟩, 1⟩]
  refine WL_call rfl rfl rfl .nil (fun w' hw' _ => stateRight w' { StateD.zero with balances := [1] } { Addrs.none with balances := ⟨some ⟨b9, 0, none⟩, 1⟩ } ?_ (by decide)) (fun r hr => ?_)
  · have h0 : ListsAt w' [] StateD.zero Addrs.none := .nil rfl rfl rfl rfl rfl rfl rfl
    obtain ⟨l1, l2, l3, l4, l5, l6, l7⟩ := h0
    exact ⟨l1, l2, l3, ⟨(SlRd.blk (b := b9) (o := 0) (c := 1) (k := 1) (m := 1) (sz := 1) .head (by exact rfl) rfl (Nat.le_refl _) rfl).at hw', Sep.none⟩, l5, l6, l7⟩
  obtain rfl : r = false := by
    cases r
    · rfl
    · have := (hr.1 rfl).nb
      simp [StateD.zero] at this
  (repeat (first | (refine WC_ret ?_) | (refine WL_val rfl rfl rfl (by first | exact val_assign rfl | exact val_pick_true rfl rfl | exact val_not rfl) ?_)))
  refine QX_ret (l := [.tmp 0]) rfl (.tmp rfl .nil) ?_
  intro w' hw'
  exact gives () hw' trivial rfl .nil
end Go.PK

/- StateSizes: how many bytes a state has. -/
namespace Go.PK
open Go.Proofs

theorem failIf_err (s : OS) (b : Bool) (e : Int) (he : e ≠ 0) : (s.failIf b e).err = 0 ↔ s.err = 0 ∧ b = false := by
  cases b
  · simp [OS.failIf]
  · simp only [OS.failIf, OS.fail, if_true]
    split <;> simp_all
theorem later_err (s : OS) (l : List UInt8) : (s.later l 0).err = 0 ↔ s.err = 0 := by
  simp only [OS.later, OS.fail]; split <;> simp_all
theorem fits_of_err {x : StateD} (h : (stAll x).err = 0) : x.Fits := by
  have h6 : (6 : Int) ≠ 0 := by decide
  simp only [stAll, st1, st2, st3, later_err, OS.bytes_err, OS.u64_eq, failIf_err _ _ _ h6] at h
  simp only [decide_eq_false_iff_not, Nat.not_lt] at h
  exact ⟨by omega, by omega, by omega, by omega, by omega, by omega, by omega⟩
theorem encState_bad {x : StateD} (h : (stAll x).err ≠ 0) : encState x = [] := by simp [encState, OS.done, h]
theorem StateD.Fits.small {x : StateD} (h : x.Fits) : x.Small := by
  obtain ⟨h1, h2, h3, h4, h5, h6, h7⟩ := h
  exact ⟨by omega, by omega, by omega, by omega, by omega, by omega, by omega⟩

set_option maxHeartbeats 4000000 in
theorem lawSizes (w : World) (x : StateD) (a : Addrs) (hL : ListsAt w [] x a) (hz : x.Small) :
    Calls Try.prog 6 [aggS (stateS x a)].toArray w (Gives (fun _ : Unit => True) (fun _ => .bool true) (fun _ => []) [] w) := by
  refine calls_enter (fn := Try.f6) Try.func6 rfl Try.ntmps6 rfl (mem0 w) ?_
  (repeat (first | (refine WC_seq ?_) | (refine WC_region ?_)))
  (first | (refine WL_alloc rfl rfl (fun b1 => ?_)) | (refine WL_box_agg rfl rfl rfl inferInstance (fun b1 => ?_)) | (refine WL_box rfl rfl rfl rfl (fun b1 => ?_)))
  (repeat (first | (refine WC_seq ?_) | (refine WC_region ?_) | (refine WL_val rfl rfl rfl (by exact val_assign rfl) ?_)))
  refine WL_call rfl rfl rfl .nil (fun w' _ _ => law10Awake w') (fun _ _ => ?_)
  (repeat (first | (refine WC_seq ?_) | (refine WC_region ?_) | (refine WC_skip ?_) | (refine WL_nil ?_) | (refine QX_then ?_) | (refine WC_cond_false rfl ?_) | (refine WL_val rfl rfl rfl (by first | (apply val_load_blk_agg; exact rfl; (repeat (first | exact .head | apply Pick.tail)); exact rfl) | exact val_not rfl) ?_)))
  refine WL_as 11 (aggS (stateS x a)) rfl rfl ?_
  refine WL_call rfl rfl rfl .nil (fun w' hw' _ => encStateW w' x a (hL.pass hw' .nil) hz) (fun g _ => ?_)
  obtain ⟨gp, gc⟩ := g
  dsimp only
  (repeat (first | (refine WC_seq ?_) | (refine WC_region ?_) | (refine WL_nil ?_) | (refine QX_then ?_) | (refine WL_val rfl rfl rfl (by first | exact val_move rfl | exact val_assign rfl | exact val_extract rfl rfl | exact val_neq rfl rfl) ?_)))
  refine WC_cond rfl (fun ht => ?_) (fun ht => ?_)
  · have he := of_decide_eq_true ht
    (repeat (first | (refine WC_seq ?_) | (refine WC_region ?_) | (refine WC_ret ?_) | (refine QX_then_ret ?_) | (refine WL_val rfl rfl rfl (by first | exact val_move rfl | exact val_assign rfl | exact val_len rfl | exact val_eql rfl rfl) ?_)))
    refine QX_ret (l := [.tmp 2]) rfl (.tmp rfl .nil) ?_
    intro w' hw'
    exact gives () hw' trivial (by rw [encState_bad he]; rfl) .nil
  · have he : (stAll x).err = 0 := by have := of_decide_eq_false ht; simpa using this
    clear ht
    have hf := fits_of_err he
    have hlen := encState_length x hf
    have h0 : 0 < (encState x).length := by rw [hlen, stEnd]; omega
    obtain ⟨f1, f2, f3, f4, f5, f6, f7⟩ := id hf
    refine WC_slPos (p := gp) .head h0 (fun gb hgb => ?_)
    subst hgb
    (repeat (first | (refine WC_seq ?_) | (refine WC_region ?_) | (refine WC_skip ?_) | (refine WL_val rfl rfl rfl (by first | exact val_move rfl | exact val_assign rfl | exact val_fieldAddr0 rfl | (apply val_load_blk; exact rfl; (repeat (first | exact .head | apply Pick.tail)); exact rfl) | exact val_len rfl | (apply val_addI; exact rfl; exact rfl; omega; omega) | (apply val_mulI; exact rfl; exact rfl; omega; omega)) ?_)))
    refine WL_call rfl rfl rfl .nil (fun w' hw' _ => readStateW w' gb 0 gc x hf ⟨SlRd.sl .head w' hw', Sep.sl hw' .nil .head⟩) (fun ra _ => ?_)
    (repeat (refine WL_val rfl rfl rfl (by first | exact val_move rfl | exact val_extract rfl rfl) ?_))
    (first | (refine WL_alloc rfl rfl (fun b3 => ?_)) | (refine WL_box_agg rfl rfl rfl inferInstance (fun b3 => ?_)) | (refine WL_box rfl rfl rfl rfl (fun b3 => ?_)))
    refine WL_store_agg (q := stateS x ra) (segs' := stateS x ra) rfl rfl rfl .head (by repeat (first | exact PutSeg.one | apply PutSeg.skip | apply PutSeg.next | exact PutSeg.inner rfl)) ?_
    (repeat (first | (refine WC_seq ?_) | (refine WC_region ?_) | (refine WL_val rfl rfl rfl (by first | exact val_move rfl | exact val_assign rfl | exact val_len rfl | exact val_eql rfl rfl) ?_)))
    refine WL_bool 62 rfl (fun _ => ?_) (fun hf => absurd (of_decide_eq_false hf) (by rw [hlen, stEnd]; simp; omega))
    (repeat (refine WL_val rfl rfl rfl (by first | exact val_move rfl | exact val_fieldAddr0 rfl | (apply val_load_blk; exact rfl; (repeat (first | exact .head | apply Pick.tail)); exact rfl) | exact val_len rfl | exact val_pick_true rfl rfl | exact val_eql rfl rfl) ?_))
    refine WL_bool 75 rfl (fun _ => ?_) (fun hf => absurd rfl (of_decide_eq_false hf))
    (repeat (refine WL_val rfl rfl rfl (by first | exact val_move rfl | exact val_fieldAddr0 rfl | (apply val_load_blk; exact rfl; (repeat (first | exact .head | apply Pick.tail)); exact rfl) | exact val_len rfl | exact val_pick_true rfl rfl | exact val_eql rfl rfl) ?_))
    refine WL_bool 84 rfl (fun _ => ?_) (fun hf => absurd rfl (of_decide_eq_false hf))
    (repeat (refine WL_val rfl rfl rfl (by first | exact val_move rfl | exact val_fieldAddr0 rfl | (apply val_load_blk; exact rfl; (repeat (first | exact .head | apply Pick.tail)); exact rfl) | exact val_len rfl | exact val_pick_true rfl rfl | exact val_eql rfl rfl) ?_))
    refine WL_bool 93 rfl (fun _ => ?_) (fun hf => absurd rfl (of_decide_eq_false hf))
    (repeat (refine WL_val rfl rfl rfl (by first | exact val_move rfl | exact val_fieldAddr0 rfl | (apply val_load_blk; exact rfl; (repeat (first | exact .head | apply Pick.tail)); exact rfl) | exact val_len rfl | exact val_pick_true rfl rfl | exact val_eql rfl rfl) ?_))
    refine WL_bool 102 rfl (fun _ => ?_) (fun hf => absurd rfl (of_decide_eq_false hf))
    (repeat (refine WL_val rfl rfl rfl (by first | exact val_move rfl | exact val_fieldAddr0 rfl | (apply val_load_blk; exact rfl; (repeat (first | exact .head | apply Pick.tail)); exact rfl) | exact val_len rfl | exact val_pick_true rfl rfl | exact val_eql rfl rfl) ?_))
    refine WL_bool 111 rfl (fun _ => ?_) (fun hf => absurd rfl (of_decide_eq_false hf))
    (repeat (refine WL_val rfl rfl rfl (by first | exact val_move rfl | exact val_fieldAddr0 rfl | (apply val_load_blk; exact rfl; (repeat (first | exact .head | apply Pick.tail)); exact rfl) | exact val_len rfl | exact val_pick_true rfl rfl | exact val_eql rfl rfl) ?_))
    refine WL_bool 120 rfl (fun _ => ?_) (fun hf => absurd rfl (of_decide_eq_false hf))
    (repeat (first | (refine WC_ret ?_) | (refine WL_val rfl rfl rfl (by first | exact val_assign rfl | exact val_fieldAddr0 rfl | (apply val_load_blk; exact rfl; (repeat (first | exact .head | apply Pick.tail)); exact rfl) | exact val_len rfl | exact val_pick_true rfl rfl | exact val_eql rfl rfl) ?_)))
    refine QX_ret (l := [.tmp 2]) rfl (.tmp rfl .nil) ?_
    intro w' hw'
    exact gives () hw' trivial (by simp [packed]) .nil
end Go.PK

/- That a value given in segments fits its type. Nothing of any program's text stands here. -/
namespace Go.PK

section
variable {P : Program}

/-- Every cell of this segment fits the type u. -/
class SegAt (P : Program) (u : TypeId) (s : Seg) : Prop where
  h : ∀ (w : World) (r : Reach) (base : Nat), ∀ v ∈ s.2, Cell.okWide P w r base u v

theorem has_zero (k : IntKind) : k.has 0 := by cases k <;> exact ⟨by decide, by decide⟩
theorem okc_int {u : TypeId} {k : IntKind} {n : Int} [h : Und P u (.int k)] (hn : k.has n) (w : World) (r : Reach) (base : Nat) : Cell.okWide P w r base u (.int k n) := by
  simp [Cell.okWide, h.h, Cell.ok, hn]
instance {u : TypeId} {k : IntKind} [Und P u (.int k)] {n : Nat} : SegAt P u (n, List.replicate n (.int k 0)) := ⟨fun w r base v hv => by
  rw [(List.mem_replicate.1 hv).2]; exact okc_int (has_zero k) w r base⟩
instance {u : TypeId} {k : IntKind} [Und P u (.int k)] : SegAt P u (1, [.int k 0]) := ⟨fun w r base v hv => by
  simp at hv; subst hv; exact okc_int (has_zero k) w r base⟩
instance {u : TypeId} [h : Und P u .bool] {n : Nat} {b : Bool} : SegAt P u (n, List.replicate n (.bool b)) := ⟨fun w r base v hv => by
  rw [(List.mem_replicate.1 hv).2]; simp [Cell.okWide, h.h, Cell.ok]⟩
instance {u : TypeId} [h : Und P u .bool] {b : Bool} : SegAt P u (1, [.bool b]) := ⟨fun w r base v hv => by
  simp at hv; subst hv; simp [Cell.okWide, h.h, Cell.ok]⟩
instance {u e : TypeId} [h : Und P u (.slice e)] : SegAt P u (1, [.slice none 0 0]) := ⟨fun w r base v hv => by
  simp at hv; subst hv; simp [Cell.okWide, h.h, Cell.ok]⟩

def tflat : List (Nat × TypeId) → List TypeId
  | [] => []
  | (n, u) :: r => List.replicate n u ++ tflat r

class SegsAt (P : Program) (ts : List (Nat × TypeId)) (l : List Seg) : Prop where
  h : SegsOk l → (tflat ts).length = (flat l).length ∧ ∀ (w : World) (r : Reach) (base i : Nat) (v : Value), (flat l)[i]? = some v → ∃ u, (tflat ts)[i]? = some u ∧ Cell.okWide P w r base u v
instance : SegsAt P [] [] := ⟨fun _ => ⟨rfl, fun _ _ _ i v h => by simp [flat] at h⟩⟩
instance {n : Nat} {u : TypeId} {vs : List Value} {ts : List (Nat × TypeId)} {l : List Seg} [h1 : SegAt P u (n, vs)] [h2 : SegsAt P ts l] : SegsAt P ((n, u) :: ts) ((n, vs) :: l) := ⟨fun hok => by
  have hl : vs.length = n := hok.head.len
  obtain ⟨e1, e2⟩ := h2.h hok.tail
  refine ⟨by simp [tflat, flat, e1, hl], fun w r base i v hv => ?_⟩
  simp only [flat] at hv
  simp only [tflat]
  rcases Nat.lt_or_ge i n with h | h
  · rw [List.getElem?_append_left (by omega)] at hv
    rw [List.getElem?_append_left (by simpa using h)]
    refine ⟨u, by simp [h], h1.h w r base v ?_⟩
    exact List.mem_of_getElem? hv
  · rw [List.getElem?_append_right (by omega), hl] at hv
    rw [List.getElem?_append_right (by simpa using h), List.length_replicate]
    exact e2 w r base _ v hv⟩

theorem okWide_segs {t : TypeId} {ts : List (Nat × TypeId)} {l : List Seg} {z : Nat} [hA : IsAgg P t] [hz : Sz P t z] [hok : SegsOk l] [hs : SegsAt P ts l] (hts : P.cellTypes P.depth t = some (tflat ts)) (hw : Nat.beq (width l) z = true) (w : World) (r : Reach) (base : Nat) :
    Value.okWide P w r base t (aggS l) := by
  obtain ⟨e1, e2⟩ := hs.h hok
  have hlen : (flat l).length = z := by rw [flat_length l hok, Nat.eq_of_beq_eq_true hw]
  have key : ∃ cs, aggS l = .agg cs ∧ cs.size = P.cellsOf t ∧ Row.okWide P w r base t cs := by
    refine ⟨_, rfl, by rw [hz.cells]; simp [hlen], tflat ts, hts, ⟨1, by simp [e1]⟩, fun i v hv => ?_⟩
    have hv' : (flat l)[i]? = some v := by simpa using hv
    have hi : i < (flat l).length := by
      rcases Nat.lt_or_ge i (flat l).length with h | h
      · exact h
      · rw [List.getElem?_eq_none h] at hv'; cases hv'
    rw [Nat.mod_eq_of_lt (by omega)]
    exact e2 w r base i v hv'
  have hA' := hA.h
  cases hu : P.underlying t with
  | none => simp [hu] at hA'
  | some dd => cases dd <;> simp [hu] at hA' <;> simpa [Value.okWide, hu] using key
end
end Go.PK

/- That zero values fit their types. Written by a program (genwit.py). -/
namespace Go.PK
open Go.Proofs

abbrev zeroState : List Seg := [(1, [.int .u64 0]), (32, List.replicate 32 (.int .u8 0)), (1, [.int .u64 0]), (4, List.replicate 4 (.int .u8 0)), (4, List.replicate 4 (.int .u8 0)), (1, [.int .u64 0]), (1, [.int .u64 0]), (1, [.int .u64 0]), (32, List.replicate 32 (.int .u8 0)), (32, List.replicate 32 (.int .u8 0)), (32, List.replicate 32 (.int .u8 0)), (256, List.replicate 256 (.int .u8 0)), (256, List.replicate 256 (.int .u8 0)), (1, [.slice none 0 0]), (32, List.replicate 32 (.int .u8 0)), (1, [.int .u64 0]), (32, List.replicate 32 (.int .u8 0)), (1, [.slice none 0 0]), (1, [.int .u64 0]), (1, [.slice none 0 0]), (1, [.slice none 0 0]), (256, List.replicate 256 (.int .u8 0)), (8, List.replicate 8 (.int .u64 0)), (1, [.slice none 0 0]), (1, [.slice none 0 0]), (4, List.replicate 4 (.bool false)), (1, [.int .u64 0]), (32, List.replicate 32 (.int .u8 0)), (1, [.int .u64 0]), (32, List.replicate 32 (.int .u8 0)), (1, [.int .u64 0]), (32, List.replicate 32 (.int .u8 0)), (1, [.slice none 0 0]), (384, List.replicate 384 (.int .u8 0)), (48, List.replicate 48 (.int .u8 0)), (384, List.replicate 384 (.int .u8 0)), (48, List.replicate 48 (.int .u8 0))]
theorem cellsState : Try.prog.cellTypes Try.prog.depth 49 = some (tflat [(1, 22), (32, 5), (1, 22), (4, 5), (4, 5), (1, 22), (1, 22), (1, 22), (32, 5), (32, 5), (32, 5), (256, 5), (256, 5), (1, 32), (32, 5), (1, 22), (32, 5), (1, 35), (1, 22), (1, 36), (1, 37), (256, 5), (8, 22), (1, 39), (1, 39), (4, 4), (1, 22), (32, 5), (1, 22), (32, 5), (1, 22), (32, 5), (1, 37), (384, 5), (48, 5), (384, 5), (48, 5)]) := by kernel_rfl
set_option maxRecDepth 100000 in
set_option synthInstance.maxHeartbeats 200000 in
theorem fitState (w : World) (r : Reach) (base : Nat) : Value.okWide Try.prog w r base 49 (aggS zeroState) := okWide_segs cellsState rfl w r base
end Go.PK

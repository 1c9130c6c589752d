/- StateApart: states that differ have unlike bytes. (Part 8: Rs3, Rs, F2, Right, Awake, Copy, K20, Bounds, Sizes.) -/
import Derived.Test.YtdmfjpjhibhmhaaApg

/- The reader of states, part 3. Written by a program (genrs.py). -/
namespace Go.PK
open Go.Proofs

set_option maxHeartbeats 8000000 in
theorem readState3 (w : World) (i xb : Nat) (g : IA) (x : StateD) (of : List Nat) (S : List Nat) (qhistory qvotes qvalidators qbalances qprevious qcurrent : PP) (hf : x.Fits) (hof : of = stOffs x ++ [stEnd x])
    (hm : Mem (inΔ i g ⟨encState x, 1153, of, 6⟩ ++ [.blk xb [(1, [u64 x.genesis]), (32, bv x.groot), (1, [u64 x.slot]), (4, bv x.fork.prev), (4, bv x.fork.cur), (1, [u64 x.fork.epoch]), (1, [u64 x.header.slot]), (1, [u64 x.header.proposer]), (32, bv x.header.parent), (32, bv x.header.state), (32, bv x.header.body), (256, rootsV x.blockRoots), (256, rootsV x.stateRoots), (1, [.slice qhistory.1 x.history.length qhistory.2]), (32, bv x.eth1.deposits), (1, [u64 x.eth1.count]), (32, bv x.eth1.block), (1, [.slice qvotes.1 x.votes.length qvotes.2]), (1, [u64 x.deposits]), (1, [.slice qvalidators.1 x.validators.length qvalidators.2]), (1, [.slice qbalances.1 x.balances.length qbalances.2]), (256, rootsV x.mixes), (8, u64sV x.slashings), (1, [.slice qprevious.1 x.previous.length qprevious.2]), (1, [.slice qcurrent.1 x.current.length qcurrent.2]), (4, boolsV x.bits), (1, [u64 x.oldJust.epoch]), (32, bv x.oldJust.root), (1, [.int .u64 0]), (32, List.replicate 32 (.int .u8 0)), (1, [.int .u64 0]), (32, List.replicate 32 (.int .u8 0)), (1, [.slice none 0 0]), (384, List.replicate 384 (.int .u8 0)), (48, List.replicate 48 (.int .u8 0)), (384, List.replicate 384 (.int .u8 0)), (48, List.replicate 48 (.int .u8 0))] 49, .sl (.slice qhistory.1 x.history.length qhistory.2) x.history.length (x.history.flatMap bv) 24 32, .sl (.slice qvotes.1 x.votes.length qvotes.2) x.votes.length (x.votes.flatMap eth1C) 34 65, .sl (.slice qvalidators.1 x.validators.length qvalidators.2) x.validators.length (x.validators.flatMap valC) 62 86, .sl (.slice qbalances.1 x.balances.length qbalances.2) x.balances.length (x.balances.map u64) 22 1, .sl (.slice qprevious.1 x.previous.length qprevious.2) x.previous.length (bs x.previous) 5 1, .sl (.slice qcurrent.1 x.current.length qcurrent.2) x.current.length (bs x.current) 5 1]) S w w) (hall : Old w S 1 (.slice (some ⟨g.ab, g.ao, none⟩) (encState x).length g.ac) (encState x).length (bs (encState x))) :
    Calls Try.prog 26 [.pointer (some ⟨i, 0, none⟩), .pointer (some ⟨xb, 0, none⟩)].toArray w
      (Gives (fun _ : PP => True) (fun _ => .tuple #[]) (fun γ => inΔ i g ⟨encState x, 2101, of, 7⟩ ++ [.blk xb [(1, [u64 x.genesis]), (32, bv x.groot), (1, [u64 x.slot]), (4, bv x.fork.prev), (4, bv x.fork.cur), (1, [u64 x.fork.epoch]), (1, [u64 x.header.slot]), (1, [u64 x.header.proposer]), (32, bv x.header.parent), (32, bv x.header.state), (32, bv x.header.body), (256, rootsV x.blockRoots), (256, rootsV x.stateRoots), (1, [.slice qhistory.1 x.history.length qhistory.2]), (32, bv x.eth1.deposits), (1, [u64 x.eth1.count]), (32, bv x.eth1.block), (1, [.slice qvotes.1 x.votes.length qvotes.2]), (1, [u64 x.deposits]), (1, [.slice qvalidators.1 x.validators.length qvalidators.2]), (1, [.slice qbalances.1 x.balances.length qbalances.2]), (256, rootsV x.mixes), (8, u64sV x.slashings), (1, [.slice qprevious.1 x.previous.length qprevious.2]), (1, [.slice qcurrent.1 x.current.length qcurrent.2]), (4, boolsV x.bits), (1, [u64 x.oldJust.epoch]), (32, bv x.oldJust.root), (1, [u64 x.just.epoch]), (32, bv x.just.root), (1, [u64 x.final.epoch]), (32, bv x.final.root), (1, [.slice γ.1 x.scores.length γ.2]), (384, rootsV x.sync.keys), (48, bv x.sync.sum), (384, rootsV x.nextSync.keys), (48, bv x.nextSync.sum)] 49, .sl (.slice qhistory.1 x.history.length qhistory.2) x.history.length (x.history.flatMap bv) 24 32, .sl (.slice qvotes.1 x.votes.length qvotes.2) x.votes.length (x.votes.flatMap eth1C) 34 65, .sl (.slice qvalidators.1 x.validators.length qvalidators.2) x.validators.length (x.validators.flatMap valC) 62 86, .sl (.slice qbalances.1 x.balances.length qbalances.2) x.balances.length (x.balances.map u64) 22 1, .sl (.slice qprevious.1 x.previous.length qprevious.2) x.previous.length (bs x.previous) 5 1, .sl (.slice qcurrent.1 x.current.length qcurrent.2) x.current.length (bs x.current) 5 1, .sl (.slice γ.1 x.scores.length γ.2) x.scores.length (x.scores.map u64) 22 1]) S w) := by
  have hlen := encState_length x hf
  obtain ⟨f1, f2, f3, f4, f5, f6, f7⟩ := id hf
  have hl0 : 2101 ≤ (encState x).length := by rw [hlen, stEnd]; omega
  have hl1 : (encState x).length < 1000000000 := by rw [hlen, stEnd]; omega
  have hac : (encState x).length ≤ g.ac := inAc w g ⟨encState x, 0, of, 0⟩ S hall
  refine calls_enter (fn := Try.f26) Try.func26 rfl Try.ntmps26 rfl hm ?_
  (repeat (first | (refine WC_seq ?_) | (refine WC_region ?_) | (refine WL_nil ?_) | (refine QX_then ?_) | (refine WC_cond_true rfl ?_) | (refine WL_val rfl rfl rfl (by first | exact val_move rfl | exact val_fieldAddr0 rfl | (apply val_load_blk; exact rfl; (repeat (first | exact .head | apply Pick.tail)); exact rfl) | exact val_nilCheck rfl | exact val_eql rfl rfl) ?_)))
  refine WL_inBytes (s := ⟨encState x, 1153, of, 6⟩) hall rfl rfl rfl rfl (by decide) (show 1153 + 40 ≤ (encState x).length from by omega) hl1 ?_
  skip
  have hrjust := hall.part (l := 1153) (k := 40) (by omega) (by decide)
  rw [bs_drop, bs_take, at_just x hf] at hrjust
  refine WL_call0 rfl rfl rfl (fun w' hw' => smallReadCheckpoint w' x.just _ _ _ (hrjust.pass hw' Take.nil)) (fun _ _ => ?_)
  (repeat (refine WL_val rfl rfl rfl (by first | exact val_move rfl | exact val_extract rfl rfl) ?_))
  (first | (refine WL_alloc rfl rfl (fun b7 => ?_)) | (refine WL_box_agg rfl rfl rfl inferInstance (fun b7 => ?_)) | (refine WL_box rfl rfl rfl rfl (fun b7 => ?_)))
  (first | (refine WL_store rfl rfl rfl rfl (by repeat (first | exact .head | apply Pick.tail | apply Put.tail)) (by repeat (first | exact PutSeg.one | apply PutSeg.skip | apply PutSeg.next | exact PutSeg.inner rfl)) ?_) | (refine WL_store_agg rfl rfl rfl (by repeat (first | exact .head | apply Pick.tail | apply Put.tail)) (by repeat (first | exact PutSeg.one | apply PutSeg.skip | apply PutSeg.next | exact PutSeg.inner rfl)) ?_))
  refine WL_mid ?_
  (repeat (first | (refine WC_seq ?_) | (refine WC_region ?_) | (refine WL_val rfl rfl rfl (by first | exact val_move rfl | exact val_assign rfl | exact val_fieldAddr0 rfl | (apply val_load_blk_agg; exact rfl; (repeat (first | exact .head | apply Pick.tail)); exact rfl) | exact val_nilCheck rfl) ?_)))
  (first | (refine WL_store rfl rfl rfl rfl (Put.right (by repeat (first | exact .head | apply Pick.tail | apply Put.tail))) (by repeat (first | exact PutSeg.one | apply PutSeg.skip | apply PutSeg.next | exact PutSeg.inner rfl)) ?_) | (refine WL_store_agg rfl rfl rfl (Put.right (by repeat (first | exact .head | apply Pick.tail | apply Put.tail))) (by repeat (first | exact PutSeg.one | apply PutSeg.skip | apply PutSeg.next | exact PutSeg.inner rfl)) ?_))
  (repeat (first | (refine WC_region ?_) | (refine WL_val rfl rfl rfl (by exact val_move rfl) ?_)))
  refine WL_inFail (s := ⟨encState x, 1193, of, 6⟩) rfl rfl rfl rfl ?_
  (repeat (first | (refine WC_seq ?_) | (refine WC_region ?_) | (refine WL_nil ?_) | (refine QX_then ?_) | (refine WC_cond_true rfl ?_) | (refine WL_val rfl rfl rfl (by first | exact val_move rfl | exact val_fieldAddr0 rfl | (apply val_load_blk; exact rfl; (repeat (first | exact .head | apply Pick.tail)); exact rfl) | exact val_nilCheck rfl | exact val_eql rfl rfl) ?_)))
  skip
  refine WL_inBytes (s := ⟨encState x, 1193, of, 6⟩) hall rfl rfl rfl rfl (by decide) (show 1193 + 40 ≤ (encState x).length from by omega) hl1 ?_
  skip
  have hrfinal := hall.part (l := 1193) (k := 40) (by omega) (by decide)
  rw [bs_drop, bs_take, at_final x hf] at hrfinal
  refine WL_call0 rfl rfl rfl (fun w' hw' => smallReadCheckpoint w' x.final _ _ _ (hrfinal.pass hw' Take.nil)) (fun _ _ => ?_)
  (repeat (refine WL_val rfl rfl rfl (by first | exact val_move rfl | exact val_extract rfl rfl) ?_))
  (first | (refine WL_alloc rfl rfl (fun b7 => ?_)) | (refine WL_box_agg rfl rfl rfl inferInstance (fun b7 => ?_)) | (refine WL_box rfl rfl rfl rfl (fun b7 => ?_)))
  (first | (refine WL_store rfl rfl rfl rfl (by repeat (first | exact .head | apply Pick.tail | apply Put.tail)) (by repeat (first | exact PutSeg.one | apply PutSeg.skip | apply PutSeg.next | exact PutSeg.inner rfl)) ?_) | (refine WL_store_agg rfl rfl rfl (by repeat (first | exact .head | apply Pick.tail | apply Put.tail)) (by repeat (first | exact PutSeg.one | apply PutSeg.skip | apply PutSeg.next | exact PutSeg.inner rfl)) ?_))
  refine WL_mid ?_
  (repeat (first | (refine WC_seq ?_) | (refine WC_region ?_) | (refine WL_val rfl rfl rfl (by first | exact val_move rfl | exact val_assign rfl | exact val_fieldAddr0 rfl | (apply val_load_blk_agg; exact rfl; (repeat (first | exact .head | apply Pick.tail)); exact rfl) | exact val_nilCheck rfl) ?_)))
  (first | (refine WL_store rfl rfl rfl rfl (Put.right (by repeat (first | exact .head | apply Pick.tail | apply Put.tail))) (by repeat (first | exact PutSeg.one | apply PutSeg.skip | apply PutSeg.next | exact PutSeg.inner rfl)) ?_) | (refine WL_store_agg rfl rfl rfl (Put.right (by repeat (first | exact .head | apply Pick.tail | apply Put.tail))) (by repeat (first | exact PutSeg.one | apply PutSeg.skip | apply PutSeg.next | exact PutSeg.inner rfl)) ?_))
  (repeat (first | (refine WC_region ?_) | (refine WL_val rfl rfl rfl (by exact val_move rfl) ?_)))
  refine WL_inFail (s := ⟨encState x, 1233, of, 6⟩) rfl rfl rfl rfl ?_
  (repeat (first | (refine WC_seq ?_) | (refine WC_region ?_) | (refine WL_val rfl rfl rfl (by exact val_move rfl) ?_)))
  skip
  refine WL_inLater (s := ⟨encState x, 1233, of, 6⟩) (lo := 2101 + (x.history.length * 32 + x.votes.length * 72 + x.validators.length * 121 + x.balances.length * 8 + x.previous.length * 1 + x.current.length * 1)) (hi := 2101 + (x.history.length * 32 + x.votes.length * 72 + x.validators.length * 121 + x.balances.length * 8 + x.previous.length * 1 + x.current.length * 1 + x.scores.length * 8)) rfl rfl rfl (by rw [hof]; rfl) (by rw [hof]; rfl) (by omega) (by rw [hlen, stEnd] at hac; omega) (show 1233 < 1000000000 from by decide) (show 6 < 1000000000 from by decide) ?_
  (repeat (first | (refine WC_seq ?_) | (refine WC_region ?_) | (refine WL_nil ?_) | (refine QX_then ?_) | (refine WC_cond_true rfl ?_) | (refine WL_val rfl rfl rfl (by first | exact val_move rfl | exact val_assign rfl | exact val_fieldAddr0 rfl | (apply val_load_blk; exact rfl; (repeat (first | exact .head | apply Pick.tail)); exact rfl) | exact val_nilCheck rfl | exact val_eql rfl rfl) ?_)))
  rw [show 2101 + (x.history.length * 32 + x.votes.length * 72 + x.validators.length * 121 + x.balances.length * 8 + x.previous.length * 1 + x.current.length * 1 + x.scores.length * 8) - (2101 + (x.history.length * 32 + x.votes.length * 72 + x.validators.length * 121 + x.balances.length * 8 + x.previous.length * 1 + x.current.length * 1)) = x.scores.length * 8 from by omega]
  have hrscores := hall.sub (l := 2101 + (x.history.length * 32 + x.votes.length * 72 + x.validators.length * 121 + x.balances.length * 8 + x.previous.length * 1 + x.current.length * 1)) (k := x.scores.length * 8) (by rw [hlen, stEnd]; omega)
  rw [bs_drop, bs_take, list_scores x hf] at hrscores
  refine WL_call rfl rfl rfl .nil (fun w' hw' _ => sszEach w' 8 65536 x.scores.length _ _ _ _ (listBscores x) (hrscores.pass hw' Take.nil) (listBscores_len x) rfl (by decide) (by decide) (by omega) (by decide) (by omega)) (fun γ hγ => ?_)
  obtain ⟨lp, lc, ps⟩ := γ
  dsimp only at hγ ⊢
  (repeat (first | (refine WC_seq ?_) | (refine WC_region ?_) | (refine WL_val rfl rfl rfl (by first | exact val_move rfl | exact val_assign rfl | exact val_extract rfl rfl) ?_)))
  refine WL_comm ?_
  rw [List.append_assoc]
  skip
  refine WL_inFail (s := ⟨encState x, 1237, of, 7⟩) rfl rfl rfl rfl ?_
  (repeat (first | (refine WC_seq ?_) | (refine WC_block ?_) | (refine WC_region ?_) | (refine WL_val rfl rfl rfl (by first | exact val_move rfl | exact val_len rfl) ?_)))
  refine WC_nil 22 1 ?_
  refine WC_loopS (G := Nat × PP) (fun k => k.1 ≤ x.scores.length) (fun k => [(0, .pointer (some ⟨i, 0, none⟩)), (1, .pointer (some ⟨xb, 0, none⟩)), (70, .slice lp x.scores.length lc), (71, .int .i64 x.scores.length), (72, .int .i64 k.1)])
    (fun k => inΔ i g ⟨encState x, 1237, of, 7⟩ ++ ([.blk xb [(1, [u64 x.genesis]), (32, bv x.groot), (1, [u64 x.slot]), (4, bv x.fork.prev), (4, bv x.fork.cur), (1, [u64 x.fork.epoch]), (1, [u64 x.header.slot]), (1, [u64 x.header.proposer]), (32, bv x.header.parent), (32, bv x.header.state), (32, bv x.header.body), (256, rootsV x.blockRoots), (256, rootsV x.stateRoots), (1, [.slice qhistory.1 x.history.length qhistory.2]), (32, bv x.eth1.deposits), (1, [u64 x.eth1.count]), (32, bv x.eth1.block), (1, [.slice qvotes.1 x.votes.length qvotes.2]), (1, [u64 x.deposits]), (1, [.slice qvalidators.1 x.validators.length qvalidators.2]), (1, [.slice qbalances.1 x.balances.length qbalances.2]), (256, rootsV x.mixes), (8, u64sV x.slashings), (1, [.slice qprevious.1 x.previous.length qprevious.2]), (1, [.slice qcurrent.1 x.current.length qcurrent.2]), (4, boolsV x.bits), (1, [u64 x.oldJust.epoch]), (32, bv x.oldJust.root), (1, [u64 x.just.epoch]), (32, bv x.just.root), (1, [u64 x.final.epoch]), (32, bv x.final.root), (1, [.slice k.2.1 k.1 k.2.2]), (384, List.replicate 384 (.int .u8 0)), (48, List.replicate 48 (.int .u8 0)), (384, List.replicate 384 (.int .u8 0)), (48, List.replicate 48 (.int .u8 0))] 49, .sl (.slice k.2.1 k.1 k.2.2) k.1 ((x.scores.take k.1).map u64) 22 1, .sl (.slice qhistory.1 x.history.length qhistory.2) x.history.length (x.history.flatMap bv) 24 32, .sl (.slice qvotes.1 x.votes.length qvotes.2) x.votes.length (x.votes.flatMap eth1C) 34 65, .sl (.slice qvalidators.1 x.validators.length qvalidators.2) x.validators.length (x.validators.flatMap valC) 62 86, .sl (.slice qbalances.1 x.balances.length qbalances.2) x.balances.length (x.balances.map u64) 22 1, .sl (.slice qprevious.1 x.previous.length qprevious.2) x.previous.length (bs x.previous) 5 1, .sl (.slice qcurrent.1 x.current.length qcurrent.2) x.current.length (bs x.current) 5 1, .sl (.slice lp x.scores.length lc) x.scores.length (eachV 8 ps) 39 1] ++ eachΔ 8 (listBscores x) ps)) (fun k => x.scores.length - k.1) (0, (none, 0)) (Nat.zero_le _) ⟨rfl, rfl, rfl, rfl, rfl, trivial⟩ (by (repeat (refine Sel.cons (by repeat (first | exact .head | apply Pick.tail | apply Put.tail)) ?_)); (repeat (first | exact Sel.refl _ | refine Sel.weak ?_))) ?_
  intro ⟨k, qscores⟩ hk
  dsimp only at hk ⊢
  (repeat (first | (refine WC_seq ?_) | (refine WC_region ?_) | (refine WL_val rfl rfl rfl (by exact val_lss rfl rfl) ?_)))
  refine WC_cond rfl (fun ht => ?_) (fun hf => ?_)
  · have hlt : k < x.scores.length := by have := of_decide_eq_true ht; omega
    have hps : k < ps.length := by omega
    refine WC_slPos (p := lp) (Pick.right (Pick.left (by repeat (first | exact .head | apply Pick.tail | apply Put.tail)))) (by omega) (fun lb hlb => ?_)
    subst hlb
    refine WC_slPos (Pick.right (Pick.right (pick_each hps))) (by decide) (fun eb heb => ?_)
    (repeat (first | (refine WC_seq ?_) | (refine WC_block ?_) | (refine WC_region ?_) | (refine WC_skip ?_)))
    refine WL_val rfl rfl rfl (val_indexAddr01 rfl rfl hlt) ?_
    refine WL_val rfl rfl rfl (val_load_sl (v := .slice (some ⟨eb, 0, none⟩) 8 ps[k].2) rfl (Pick.right (Pick.left (by repeat (first | exact .head | apply Pick.tail | apply Put.tail)))) (by simp [eachV, hps, heb])) ?_
    (repeat (first | (refine WC_seq ?_) | (refine WC_region ?_) | (refine WL_val rfl rfl rfl (by first | exact val_move rfl | exact val_assign rfl) ?_)))
    have hpart : (List.drop (k * 8) (listBscores x)).take 8 = le8 x.scores[k].toNat := drop_take_flatMap _ 8 _ k hlt (fun _ _ => by simp)
    refine WL_call0 rfl rfl rfl (fun w' hw' => wordRead w' _ _ (by have := SlRd.sl (Pick.right (Pick.right (pick_each hps))) w' hw'; rwa [heb, hpart] at this) (by simp)) (fun _ _ => ?_)
    rw [rd_u64]
    (repeat (first | (refine WC_region ?_) | (refine WL_val rfl rfl rfl (by first | exact val_move rfl | exact val_assign rfl | exact val_fieldAddr0 rfl | (apply val_load_blk; exact rfl; (repeat (first | exact .head | apply Pick.tail)); exact rfl) | exact val_nilCheck rfl | exact val_extract rfl rfl) ?_)))
    refine WL_build1 rfl rfl rfl rfl rfl rfl rfl rfl rfl rfl (fun b9 => ?_)
    refine WL_append (news := [u64 x.scores[k]]) rfl rfl rfl rfl rfl rfl (Pick.tail (Pick.right (Pick.left (by repeat (first | exact .head | apply Pick.tail | apply Put.tail))))) (SlRd.blk (k := 1) (m := 1) (by repeat (first | exact .head | apply Pick.tail | apply Put.tail)) (by exact rfl) rfl (Nat.le_refl _) rfl) (by simp [Value.oneCell']) (by omega) (by omega) (fun p2 c2 => ?_)
    (repeat (refine WL_val rfl rfl rfl (by first | exact val_fieldAddr0 rfl | exact val_nilCheck rfl) ?_))
    (first | (refine WL_store rfl rfl rfl rfl (by repeat (first | exact .head | apply Pick.tail | apply Put.tail)) (by repeat (first | exact PutSeg.one | apply PutSeg.skip | apply PutSeg.next | exact PutSeg.inner rfl)) ?_) | (refine WL_store_agg rfl rfl rfl (by repeat (first | exact .head | apply Pick.tail | apply Put.tail)) (by repeat (first | exact PutSeg.one | apply PutSeg.skip | apply PutSeg.next | exact PutSeg.inner rfl)) ?_))
    (repeat (first | (refine WC_region ?_) | (refine WL_nil ?_) | (refine WL_val rfl rfl rfl (by first | exact val_move rfl | (apply val_addI; exact rfl; exact rfl; omega; omega)) ?_)))
    rw [show List.map u64 (x.scores.take k) ++ [Value.int .u64 (x.scores[k].toNat : Int)] = List.map u64 (x.scores.take (k + 1)) from map_take_succ u64 _ _ hlt]
    exact QX_againS (k + 1, (p2, c2)) (by simp; omega) (by simp; omega) ⟨rfl, rfl, rfl, rfl, rfl, trivial⟩ (by (repeat (refine Sel.cons (by repeat (first | exact .head | apply Pick.tail | apply Put.tail)) ?_)); (repeat (first | exact Sel.refl _ | refine Sel.weak ?_)))
  have hk8 : k = x.scores.length := by have := of_decide_eq_false hf; omega
  subst hk8
  clear hf hk
  have hf : x.Fits := ‹_›
  rw [show x.scores.take x.scores.length = x.scores from List.take_length]
  refine WC_sel (Δ := inΔ i g ⟨encState x, 1237, of, 7⟩ ++ [.blk xb [(1, [u64 x.genesis]), (32, bv x.groot), (1, [u64 x.slot]), (4, bv x.fork.prev), (4, bv x.fork.cur), (1, [u64 x.fork.epoch]), (1, [u64 x.header.slot]), (1, [u64 x.header.proposer]), (32, bv x.header.parent), (32, bv x.header.state), (32, bv x.header.body), (256, rootsV x.blockRoots), (256, rootsV x.stateRoots), (1, [.slice qhistory.1 x.history.length qhistory.2]), (32, bv x.eth1.deposits), (1, [u64 x.eth1.count]), (32, bv x.eth1.block), (1, [.slice qvotes.1 x.votes.length qvotes.2]), (1, [u64 x.deposits]), (1, [.slice qvalidators.1 x.validators.length qvalidators.2]), (1, [.slice qbalances.1 x.balances.length qbalances.2]), (256, rootsV x.mixes), (8, u64sV x.slashings), (1, [.slice qprevious.1 x.previous.length qprevious.2]), (1, [.slice qcurrent.1 x.current.length qcurrent.2]), (4, boolsV x.bits), (1, [u64 x.oldJust.epoch]), (32, bv x.oldJust.root), (1, [u64 x.just.epoch]), (32, bv x.just.root), (1, [u64 x.final.epoch]), (32, bv x.final.root), (1, [.slice qscores.1 x.scores.length qscores.2]), (384, List.replicate 384 (.int .u8 0)), (48, List.replicate 48 (.int .u8 0)), (384, List.replicate 384 (.int .u8 0)), (48, List.replicate 48 (.int .u8 0))] 49, .sl (.slice qhistory.1 x.history.length qhistory.2) x.history.length (x.history.flatMap bv) 24 32, .sl (.slice qvotes.1 x.votes.length qvotes.2) x.votes.length (x.votes.flatMap eth1C) 34 65, .sl (.slice qvalidators.1 x.validators.length qvalidators.2) x.validators.length (x.validators.flatMap valC) 62 86, .sl (.slice qbalances.1 x.balances.length qbalances.2) x.balances.length (x.balances.map u64) 22 1, .sl (.slice qprevious.1 x.previous.length qprevious.2) x.previous.length (bs x.previous) 5 1, .sl (.slice qcurrent.1 x.current.length qcurrent.2) x.current.length (bs x.current) 5 1, .sl (.slice qscores.1 x.scores.length qscores.2) x.scores.length (x.scores.map u64) 22 1]) (by repeat (first | exact Sel.nil | refine Sel.cons (by repeat (first | exact .head | apply Pick.tail | apply Put.tail)) ?_)) ?_
  (repeat (first | (refine WC_seq ?_) | (refine WC_region ?_) | (refine WC_exit ?_) | (refine WL_nil ?_) | (refine QX_then ?_) | (refine WC_cond_true rfl ?_) | (refine WL_val rfl rfl rfl (by first | exact val_move rfl | exact val_fieldAddr0 rfl | (apply val_load_blk; exact rfl; (repeat (first | exact .head | apply Pick.tail)); exact rfl) | exact val_nilCheck rfl | exact val_eql rfl rfl) ?_)))
  refine WL_inBytes (s := ⟨encState x, 1237, of, 7⟩) hall rfl rfl rfl rfl (by decide) (show 1237 + 432 ≤ (encState x).length from by omega) hl1 ?_
  skip
  have hrsync := hall.part (l := 1237) (k := 432) (by omega) (by decide)
  rw [bs_drop, bs_take, at_sync x hf] at hrsync
  refine WL_call0 rfl rfl rfl (fun w' hw' => smallReadCommittee w' x.sync _ _ _ (hrsync.pass hw' Take.nil)) (fun _ _ => ?_)
  (repeat (refine WL_val rfl rfl rfl (by first | exact val_move rfl | exact val_extract rfl rfl) ?_))
  (first | (refine WL_alloc rfl rfl (fun b7 => ?_)) | (refine WL_box_agg rfl rfl rfl inferInstance (fun b7 => ?_)) | (refine WL_box rfl rfl rfl rfl (fun b7 => ?_)))
  (first | (refine WL_store rfl rfl rfl rfl (by repeat (first | exact .head | apply Pick.tail | apply Put.tail)) (by repeat (first | exact PutSeg.one | apply PutSeg.skip | apply PutSeg.next | exact PutSeg.inner rfl)) ?_) | (refine WL_store_agg rfl rfl rfl (by repeat (first | exact .head | apply Pick.tail | apply Put.tail)) (by repeat (first | exact PutSeg.one | apply PutSeg.skip | apply PutSeg.next | exact PutSeg.inner rfl)) ?_))
  refine WL_mid ?_
  (repeat (first | (refine WC_seq ?_) | (refine WC_region ?_) | (refine WL_val rfl rfl rfl (by first | exact val_move rfl | exact val_assign rfl | exact val_fieldAddr0 rfl | (apply val_load_blk_agg; exact rfl; (repeat (first | exact .head | apply Pick.tail)); exact rfl) | exact val_nilCheck rfl) ?_)))
  (first | (refine WL_store rfl rfl rfl rfl (Put.right (by repeat (first | exact .head | apply Pick.tail | apply Put.tail))) (by repeat (first | exact PutSeg.one | apply PutSeg.skip | apply PutSeg.next | exact PutSeg.inner rfl)) ?_) | (refine WL_store_agg rfl rfl rfl (Put.right (by repeat (first | exact .head | apply Pick.tail | apply Put.tail))) (by repeat (first | exact PutSeg.one | apply PutSeg.skip | apply PutSeg.next | exact PutSeg.inner rfl)) ?_))
  (repeat (first | (refine WC_region ?_) | (refine WL_val rfl rfl rfl (by exact val_move rfl) ?_)))
  refine WL_inFail (s := ⟨encState x, 1669, of, 7⟩) rfl rfl rfl rfl ?_
  (repeat (first | (refine WC_seq ?_) | (refine WC_region ?_) | (refine WL_nil ?_) | (refine QX_then ?_) | (refine WC_cond_true rfl ?_) | (refine WL_val rfl rfl rfl (by first | exact val_move rfl | exact val_fieldAddr0 rfl | (apply val_load_blk; exact rfl; (repeat (first | exact .head | apply Pick.tail)); exact rfl) | exact val_nilCheck rfl | exact val_eql rfl rfl) ?_)))
  skip
  refine WL_inBytes (s := ⟨encState x, 1669, of, 7⟩) hall rfl rfl rfl rfl (by decide) (show 1669 + 432 ≤ (encState x).length from by omega) hl1 ?_
  skip
  have hrnextSync := hall.part (l := 1669) (k := 432) (by omega) (by decide)
  rw [bs_drop, bs_take, at_nextSync x hf] at hrnextSync
  refine WL_call0 rfl rfl rfl (fun w' hw' => smallReadCommittee w' x.nextSync _ _ _ (hrnextSync.pass hw' Take.nil)) (fun _ _ => ?_)
  (repeat (refine WL_val rfl rfl rfl (by first | exact val_move rfl | exact val_extract rfl rfl) ?_))
  (first | (refine WL_alloc rfl rfl (fun b7 => ?_)) | (refine WL_box_agg rfl rfl rfl inferInstance (fun b7 => ?_)) | (refine WL_box rfl rfl rfl rfl (fun b7 => ?_)))
  (first | (refine WL_store rfl rfl rfl rfl (by repeat (first | exact .head | apply Pick.tail | apply Put.tail)) (by repeat (first | exact PutSeg.one | apply PutSeg.skip | apply PutSeg.next | exact PutSeg.inner rfl)) ?_) | (refine WL_store_agg rfl rfl rfl (by repeat (first | exact .head | apply Pick.tail | apply Put.tail)) (by repeat (first | exact PutSeg.one | apply PutSeg.skip | apply PutSeg.next | exact PutSeg.inner rfl)) ?_))
  refine WL_mid ?_
  (repeat (first | (refine WC_seq ?_) | (refine WC_region ?_) | (refine WL_val rfl rfl rfl (by first | exact val_move rfl | exact val_assign rfl | exact val_fieldAddr0 rfl | (apply val_load_blk_agg; exact rfl; (repeat (first | exact .head | apply Pick.tail)); exact rfl) | exact val_nilCheck rfl) ?_)))
  (first | (refine WL_store rfl rfl rfl rfl (Put.right (by repeat (first | exact .head | apply Pick.tail | apply Put.tail))) (by repeat (first | exact PutSeg.one | apply PutSeg.skip | apply PutSeg.next | exact PutSeg.inner rfl)) ?_) | (refine WL_store_agg rfl rfl rfl (Put.right (by repeat (first | exact .head | apply Pick.tail | apply Put.tail))) (by repeat (first | exact PutSeg.one | apply PutSeg.skip | apply PutSeg.next | exact PutSeg.inner rfl)) ?_))
  (repeat (first | (refine WC_region ?_) | (refine WL_val rfl rfl rfl (by exact val_move rfl) ?_)))
  refine WL_inFail (s := ⟨encState x, 2101, of, 7⟩) rfl rfl rfl rfl ?_
  (repeat (refine WL_nil ?_))
  refine QX_end (l := []) rfl .nil ?_
  intro w' hw'
  exact gives (qscores) hw' trivial rfl (by repeat (first | exact Sel.nil | refine Sel.cons (by repeat (first | exact .head | apply Pick.tail | apply Put.tail)) ?_))
end Go.PK

/- ReadState on the bytes of a state. -/
namespace Go.PK
open Go.Proofs

/-- the lists of a state that was read, each in memory of its own -/
abbrev listsΔ (x : StateD) (a : Addrs) : List Chunk :=
  [.sl (a.history.sl x.history.length) x.history.length (x.history.flatMap bv) 24 32, .sl (a.votes.sl x.votes.length) x.votes.length (x.votes.flatMap eth1C) 34 65,
   .sl (a.validators.sl x.validators.length) x.validators.length (x.validators.flatMap valC) 62 86, .sl (a.balances.sl x.balances.length) x.balances.length (x.balances.map u64) 22 1,
   .sl (a.previous.sl x.previous.length) x.previous.length (bs x.previous) 5 1, .sl (a.current.sl x.current.length) x.current.length (bs x.current) 5 1, .sl (a.scores.sl x.scores.length) x.scores.length (x.scores.map u64) 22 1]

def PC.of (q : PP) : PC := ⟨q.1, q.2⟩

set_option maxHeartbeats 4000000 in
theorem readStateW (w : World) (b o c : Nat) (x : StateD) (hf : x.Fits) (hall : Old w [] 1 (.slice (some ⟨b, o, none⟩) (encState x).length c) (encState x).length (bs (encState x))) :
    Calls Try.prog 13 [.slice (some ⟨b, o, none⟩) (encState x).length c].toArray w
      (Gives (fun _ : Addrs => True) (fun a => .tuple #[aggS (stateS x a), .int .i64 0]) (fun a => listsΔ x a) [] w) := by
  have hlen := encState_length x hf
  have hl0 : 2101 ≤ (encState x).length := by rw [hlen, stEnd]; omega
  have hl1 : (encState x).length < 1000000000 := by obtain ⟨f1, f2, f3, f4, f5, f6, f7⟩ := id hf; rw [hlen, stEnd]; omega
  refine calls_enter (fn := Try.f13) Try.func13 rfl Try.ntmps13 rfl (mem0 w) ?_
  (repeat (first | (refine WC_seq ?_) | (refine WC_region ?_)))
  (first | (refine WL_alloc rfl rfl (fun b2 => ?_)) | (refine WL_box_agg rfl rfl rfl inferInstance (fun b2 => ?_)) | (refine WL_box rfl rfl rfl rfl (fun b2 => ?_)))
  (repeat (first | (refine WC_seq ?_) | (refine WC_region ?_) | (refine WL_val rfl rfl rfl (by exact val_assign rfl) ?_)))
  (first | (refine WL_alloc rfl rfl (fun b4 => ?_)) | (refine WL_box_agg rfl rfl rfl inferInstance (fun b4 => ?_)) | (refine WL_box rfl rfl rfl rfl (fun b4 => ?_)))
  (repeat (first | (refine WC_seq ?_) | (refine WC_region ?_) | (refine WL_val rfl rfl rfl (by exact val_move rfl) ?_)))
  refine WL_call rfl rfl rfl .nil (fun w' _ _ => inOpen w' b o c _ 2101 7 (encState x) rfl hl0 (fun h => by cases h)) (fun i _ => ?_)
  (repeat (first | (refine WC_seq ?_) | (refine WC_region ?_) | (refine WL_val rfl rfl rfl (by first | exact val_move rfl | exact val_assign rfl) ?_)))
  refine WL_build1 rfl rfl rfl rfl rfl rfl rfl rfl rfl rfl (fun b9 => ?_)
  refine WL_call (Δ := inΔ i ⟨b, o, c, none, 0⟩ ⟨encState x, 0, [], 0⟩) rfl rfl rfl (by repeat (first | exact Take.nil | apply Take.cons (by repeat (first | exact .head | apply Pick.tail | apply Put.tail)))) (fun w' hw' hd => inOffsets w' i _ _ _ 2101 [688, 764, 776, 780, 1104, 1108, 1233] (stOffs x) _ hd rfl ?_ (offsOk x hf) (hall.pass hw' (by repeat (first | exact Take.nil | apply Take.cons (by repeat (first | exact .head | apply Pick.tail | apply Put.tail))))) hl1 (by decide)) (fun g hg => ?_)
  · exact ⟨(SlRd.blk (k := 7) (m := 7) (sz := 1) .head (by exact rfl) rfl (Nat.le_refl _) (by simp)).at hw', Sep.blk hw' (by repeat (first | exact Take.nil | apply Take.cons (by repeat (first | exact .head | apply Pick.tail | apply Put.tail)))) .head⟩
  obtain ⟨g1, g2, g3⟩ := hg
  obtain ⟨ab, ao, ac, gp, gc⟩ := g
  dsimp only at g1 g2 g3
  subst g1 g2 g3
  (repeat (first | (refine WC_seq ?_) | (refine WC_region ?_) | (refine WL_val rfl rfl rfl (by exact val_move rfl) ?_)))
  refine WL_call rfl rfl rfl (by repeat (first | exact Take.nil | apply Take.cons (by repeat (first | exact .head | apply Pick.tail | apply Put.tail)))) (fun w' hw' hd => readState1 w' i b4 ⟨ab, ao, ac, gp, gc⟩ x (stOffs x ++ [(encState x).length]) _ hf (by rw [hlen]) hd (hall.pass hw' (by repeat (first | exact Take.nil | apply Take.cons (by repeat (first | exact .head | apply Pick.tail | apply Put.tail)))))) (fun γ _ => ?_)
  obtain ⟨q1, q2⟩ := γ
  dsimp only
  (repeat (first | (refine WC_seq ?_) | (refine WC_region ?_) | (refine WL_val rfl rfl rfl (by exact val_move rfl) ?_)))
  refine WL_call rfl rfl rfl (by repeat (first | exact Take.nil | apply Take.cons (by repeat (first | exact .head | apply Pick.tail | apply Put.tail)))) (fun w' hw' hd => readState2 w' i b4 ⟨ab, ao, ac, gp, gc⟩ x (stOffs x ++ [(encState x).length]) _ q1 q2 hf (by rw [hlen]) hd (hall.pass hw' (by repeat (first | exact Take.nil | apply Take.cons (by repeat (first | exact .head | apply Pick.tail | apply Put.tail)))))) (fun γ _ => ?_)
  obtain ⟨q3, q4, q5, q6⟩ := γ
  dsimp only
  (repeat (first | (refine WC_seq ?_) | (refine WC_region ?_) | (refine WL_val rfl rfl rfl (by exact val_move rfl) ?_)))
  refine WL_call rfl rfl rfl (by repeat (first | exact Take.nil | apply Take.cons (by repeat (first | exact .head | apply Pick.tail | apply Put.tail)))) (fun w' hw' hd => readState3 w' i b4 ⟨ab, ao, ac, gp, gc⟩ x (stOffs x ++ [(encState x).length]) _ q1 q2 q3 q4 q5 q6 hf (by rw [hlen]) hd (hall.pass hw' (by repeat (first | exact Take.nil | apply Take.cons (by repeat (first | exact .head | apply Pick.tail | apply Put.tail)))))) (fun q7 _ => ?_)
  (repeat (first | (refine WC_seq ?_) | (refine WC_region ?_) | (refine WC_skip ?_) | (refine WL_nil ?_) | (refine QX_then ?_) | (refine WC_cond_false rfl ?_) | (refine WL_val rfl rfl rfl (by first | exact val_move rfl | exact val_fieldAddr0 rfl | (apply val_load_blk; exact rfl; (repeat (first | exact .head | apply Pick.tail)); exact rfl) | (apply val_load_blk_agg; exact rfl; (repeat (first | exact .head | apply Pick.tail)); exact rfl) | exact val_nilCheck rfl | exact val_neq rfl rfl) ?_)))
  refine WL_as 27 (aggS (stateS x ⟨.of q1, .of q2, .of q3, .of q4, .of q5, .of q6, .of q7⟩)) rfl rfl ?_
  refine WL_store_agg (q := stateS x ⟨.of q1, .of q2, .of q3, .of q4, .of q5, .of q6, .of q7⟩) (segs' := stateS x ⟨.of q1, .of q2, .of q3, .of q4, .of q5, .of q6, .of q7⟩) rfl rfl rfl (by repeat (first | exact .head | apply Pick.tail | apply Put.tail)) (by repeat (first | exact PutSeg.one | apply PutSeg.skip | apply PutSeg.next | exact PutSeg.inner rfl)) ?_
  (repeat (first | (refine WC_ret ?_) | (refine WL_val rfl rfl rfl (by exact val_assign rfl) ?_)))
  refine QX_ret (l := [.cell 2 49, .tmp 3]) rfl (.cell rfl (load_blk_agg (by repeat (first | exact .head | apply Pick.tail | apply Put.tail)) (by exact rfl)) (.tmp rfl .nil)) ?_
  intro w' hw'
  exact gives ⟨.of q1, .of q2, .of q3, .of q4, .of q5, .of q6, .of q7⟩ hw' trivial rfl (by repeat (first | exact Sel.nil | refine Sel.cons (by repeat (first | exact .head | apply Pick.tail | apply Put.tail)) ?_))
end Go.PK

/- Where the fields of struct types lie: facts of the translation. Written by a program (genfacts.py). -/
namespace Go.PK
open Go.Proofs

instance : Places Try.prog 7 [(0, 1), (1, 1), (2, 1), (3, 1)] := ⟨by kernel_rfl⟩
instance : Places Try.prog 8 [(0, 1), (1, 1), (2, 1), (3, 1)] := ⟨by kernel_rfl⟩
instance : Places Try.prog 13 [(0, 1), (1, 1)] := ⟨by kernel_rfl⟩
instance : Places Try.prog 14 [(0, 1), (1, 1)] := ⟨by kernel_rfl⟩
instance : Places Try.prog 18 [(0, 1)] := ⟨by kernel_rfl⟩
instance : Places Try.prog 19 [(0, 1)] := ⟨by kernel_rfl⟩
instance : Places Try.prog 27 [(0, 4), (4, 4), (8, 1)] := ⟨by kernel_rfl⟩
instance : Places Try.prog 28 [(0, 4), (4, 4), (8, 1)] := ⟨by kernel_rfl⟩
instance : Places Try.prog 29 [(0, 1), (1, 1), (2, 32), (34, 32), (66, 32)] := ⟨by kernel_rfl⟩
instance : Places Try.prog 30 [(0, 1), (1, 1), (2, 32), (34, 32), (66, 32)] := ⟨by kernel_rfl⟩
instance : Places Try.prog 33 [(0, 32), (32, 1), (33, 32)] := ⟨by kernel_rfl⟩
instance : Places Try.prog 34 [(0, 32), (32, 1), (33, 32)] := ⟨by kernel_rfl⟩
instance : Places Try.prog 41 [(0, 1), (1, 32)] := ⟨by kernel_rfl⟩
instance : Places Try.prog 42 [(0, 1), (1, 32)] := ⟨by kernel_rfl⟩
instance : Places Try.prog 46 [(0, 384), (384, 48)] := ⟨by kernel_rfl⟩
instance : Places Try.prog 47 [(0, 384), (384, 48)] := ⟨by kernel_rfl⟩
instance : Places Try.prog 48 [(0, 1), (1, 32), (33, 1), (34, 9), (43, 98), (141, 256), (397, 256), (653, 1), (654, 65), (719, 1), (720, 1), (721, 1), (722, 1), (723, 256), (979, 8), (987, 1), (988, 1), (989, 4), (993, 33), (1026, 33), (1059, 33), (1092, 1), (1093, 432), (1525, 432)] := ⟨by kernel_rfl⟩
instance : Places Try.prog 49 [(0, 1), (1, 32), (33, 1), (34, 9), (43, 98), (141, 256), (397, 256), (653, 1), (654, 65), (719, 1), (720, 1), (721, 1), (722, 1), (723, 256), (979, 8), (987, 1), (988, 1), (989, 4), (993, 33), (1026, 33), (1059, 33), (1092, 1), (1093, 432), (1525, 432)] := ⟨by kernel_rfl⟩
instance : Places Try.prog 61 [(0, 48), (48, 32), (80, 1), (81, 1), (82, 1), (83, 1), (84, 1), (85, 1)] := ⟨by kernel_rfl⟩
instance : Places Try.prog 62 [(0, 48), (48, 32), (80, 1), (81, 1), (82, 1), (83, 1), (84, 1), (85, 1)] := ⟨by kernel_rfl⟩
instance : Places Try.prog 67 [(0, 1), (1, 1), (2, 1), (3, 1), (4, 1)] := ⟨by kernel_rfl⟩
instance : Places Try.prog 68 [(0, 1), (1, 1), (2, 1), (3, 1), (4, 1)] := ⟨by kernel_rfl⟩
instance : Places Try.prog 77 [(0, 1), (1, 1), (2, 1), (3, 1), (4, 1)] := ⟨by kernel_rfl⟩
instance : Places Try.prog 78 [(0, 1), (1, 1), (2, 1), (3, 1), (4, 1)] := ⟨by kernel_rfl⟩
instance : Places Try.prog 137 [(0, 1), (1, 1), (2, 1), (3, 1)] := ⟨by kernel_rfl⟩
instance : Places Try.prog 138 [(0, 1), (1, 1), (2, 1), (3, 1)] := ⟨by kernel_rfl⟩

end Go.PK

/- Which states are right: the program's answer. -/
namespace Go.PK
open Go.Proofs
attribute [local irreducible] WL WC QX WD

def EpOk (n : UInt64) : Prop := n.toNat = 18446744073709551615 ∨ n.toNat < 2199023255552
structure ValRight (v : Validator) : Prop where
  most : v.eff.toNat ≤ 32000000000
  whole : v.eff.toNat % 1000000000 = 0
  elig : EpOk v.elig
  act : EpOk v.act
  exit : EpOk v.exit
  wd : EpOk v.wd
/-- A right state. -/
structure StateD.Right (x : StateD) : Prop where
  nv : x.validators.length ≤ 65536
  nb : x.balances.length = x.validators.length
  np : x.previous.length = x.validators.length
  nc : x.current.length = x.validators.length
  ns : x.scores.length = x.validators.length
  nh : x.history.length ≤ 1024
  nt : x.votes.length ≤ 8
  slot : x.slot.toNat < 1099511627776
  deps : x.deposits.toNat < 1099511627776
  head : x.header.slot.toNat ≤ x.slot.toNat
  oj : x.oldJust.epoch.toNat ≤ x.slot.toNat / 4
  j : x.just.epoch.toNat ≤ x.slot.toNat / 4
  f : x.final.epoch.toNat ≤ x.slot.toNat / 4
  vals : ∀ v ∈ x.validators, ValRight v
  scores : ∀ s ∈ x.scores, s.toNat ≤ 1099511627776
  bal : sumU x.balances ≤ 144115188075855872
  slash : sumU x.slashings.toList ≤ 144115188075855872

theorem stateFew (w : World) (v : Value) (l : List UInt64) (hv : SlAt w 1 v l.length (l.map u64)) (hl : l.length < 1000000000) :
    Calls Try.prog 14 [v].toArray w (Gives (fun _ : Unit => True) (fun _ => .bool (decide (sumU l ≤ 144115188075855872))) (fun _ => []) [] w) := by
  obtain ⟨p, c, rfl⟩ := hv.shape
  refine calls_enter (fn := Try.f14) Try.func14 rfl Try.ntmps14 rfl (mem0 w) ?_
  (repeat (first | (refine WC_seq ?_) | (refine WC_block ?_) | (refine WC_region ?_) | (refine WL_nil ?_) | (refine QX_then ?_) | (refine WL_val rfl rfl rfl (by first | exact val_move rfl | exact val_assign rfl | exact val_len rfl) ?_)))
  refine WC_loopS (G := Nat × Nat) (fun i => i.1 ≤ l.length ∧ sumU (l.take i.1) + i.2 = 144115188075855872) (fun i => [(3, .int .u64 (i.2 : Int)), (6, .slice p l.length c), (7, .int .i64 l.length), (8, .int .i64 i.1)]) (fun _ => []) (fun i => l.length - i.1)
    (0, 144115188075855872) ⟨Nat.zero_le _, by simp [sumU]⟩ ⟨rfl, rfl, rfl, rfl, trivial⟩ (by repeat (first | exact Sel.nil | refine Sel.cons (by repeat (first | exact .head | apply Pick.tail | apply Put.tail)) ?_)) ?_
  intro ⟨i, r⟩ hi
  obtain ⟨hi, hr⟩ := hi
  dsimp only at hi hr ⊢
  (repeat (first | (refine WC_seq ?_) | (refine WC_region ?_) | (refine WL_nil ?_) | (refine QX_then ?_) | (refine WL_val rfl rfl rfl (by exact val_lss rfl rfl) ?_)))
  refine WC_cond rfl (fun ht => ?_) (fun hf => ?_)
  · have hlt : i < l.length := by have := of_decide_eq_true ht; omega
    obtain ⟨b, o, hp, hrd⟩ := SlV.posOld (S := []) hv Sep.none (by omega) (by decide)
    have hb := l[i].toNat_lt
    have hs := sumU_take_succ l i hlt
    (repeat (first | (refine WC_seq ?_) | (refine WC_block ?_) | (refine WC_region ?_) | (refine WC_skip ?_) | (refine QX_then ?_)))
    refine WL_val rfl rfl rfl (val_indexAddrP1 hp rfl rfl hlt) ?_
    refine WL_val rfl rfl rfl (val_load_at (v := u64 l[i]) rfl (hrd _) (by simp [hlt])) ?_
    (repeat (first | (refine WC_seq ?_) | (refine WC_region ?_) | (refine WL_nil ?_) | (refine QX_then ?_) | (refine WL_val rfl rfl rfl (by first | exact val_move rfl | exact val_assign rfl | exact val_gtr rfl rfl) ?_)))
    refine WC_cond rfl (fun ht => ?_) (fun hf => ?_)
    · have h1 : r < l[i].toNat := by have := of_decide_eq_true ht; omega
      (repeat (first | (refine WC_seq ?_) | (refine WC_region ?_) | (refine WC_ret ?_) | (refine WL_nil ?_) | (refine QX_then ?_) | (refine QX_then_ret ?_) | (refine QX_block_ret ?_) | (refine WL_val rfl rfl rfl (by exact val_assign rfl) ?_)))
      refine QX_ret (l := [.tmp 2]) rfl (.tmp rfl .nil) ?_
      intro w' hw'
      have := sumU_take_le l (i + 1)
      exact gives () hw' trivial (by rw [show decide (sumU l ≤ 144115188075855872) = false from decide_eq_false (by omega)]; rfl) (by repeat (first | exact Sel.nil | refine Sel.cons (by repeat (first | exact .head | apply Pick.tail | apply Put.tail)) ?_))
    · have h1 : l[i].toNat ≤ r := by have := of_decide_eq_false hf; omega
      (repeat (first | (refine WC_region ?_) | (refine WC_skip ?_) | (refine QX_then ?_) | (refine WL_val rfl rfl rfl (by exact val_move rfl) ?_)))
      refine WL_val rfl rfl rfl (val_subU rfl rfl h1 (by omega)) ?_
      (repeat (first | (refine WC_region ?_) | (refine WL_nil ?_) | (refine QX_then ?_) | (refine QX_block ?_) | (refine WL_val rfl rfl rfl (by first | exact val_move rfl | exact val_assign rfl | (apply val_addI; exact rfl; exact rfl; omega; omega)) ?_)))
      exact QX_againS (i + 1, r - l[i].toNat) ⟨by simp; omega, by simp; omega⟩ (by simp; omega) ⟨rfl, rfl, rfl, rfl, trivial⟩ (by repeat (first | exact Sel.nil | refine Sel.cons (by repeat (first | exact .head | apply Pick.tail | apply Put.tail)) ?_))
  · have hi8 : i = l.length := by have := of_decide_eq_false hf; omega
    subst hi8
    rw [List.take_length] at hr
    (repeat (first | (refine WC_seq ?_) | (refine WC_region ?_) | (refine WC_ret ?_) | (refine WC_exit ?_) | (refine WL_nil ?_) | (refine QX_then ?_) | (refine QX_then_exit ?_) | (refine QX_block_exit ?_) | (refine WL_val rfl rfl rfl (by exact val_assign rfl) ?_)))
    refine QX_ret (l := [.tmp 2]) rfl (.tmp rfl .nil) ?_
    intro w' hw'
    exact gives () hw' trivial (by rw [show decide (sumU l ≤ 144115188075855872) = true from decide_eq_true (by omega)]; rfl) (by repeat (first | exact Sel.nil | refine Sel.cons (by repeat (first | exact .head | apply Pick.tail | apply Put.tail)) ?_))

abbrev ck3S (x : StateD) : List Seg := [(1, [u64 x.oldJust.epoch]), (32, bv x.oldJust.root), (1, [u64 x.just.epoch]), (32, bv x.just.root), (1, [u64 x.final.epoch]), (32, bv x.final.root)]
abbrev ep4S (v : Validator) : List Seg := [(4, [u64 v.elig, u64 v.act, u64 v.exit, u64 v.wd])]

instance {v : Validator} : SegOk (4, [u64 v.elig, u64 v.act, u64 v.exit, u64 v.wd]) := ⟨rfl, fun u hu => by simp at hu; rcases hu with rfl | rfl | rfl | rfl <;> rfl⟩

set_option maxHeartbeats 4000000 in
theorem stateRight (w : World) (x : StateD) (a : Addrs) (hL : ListsAt w [] x a) (hz : x.validators.length ≤ 1048576 ∧ x.balances.length ≤ 1048576 ∧ x.scores.length ≤ 1048576) :
    Calls Try.prog 9 [aggS (stateS x a)].toArray w (Gives (fun r : Bool => (r = true ↔ x.Right)) (fun r => .bool r) (fun _ => []) [] w) := by
  obtain ⟨z1, z2, z3⟩ := hz
  refine calls_enter (fn := Try.f9) Try.func9 rfl Try.ntmps9 rfl (mem0 w) ?_
  (repeat (first | (refine WC_seq ?_) | (refine WC_region ?_)))
  (first | (refine WL_alloc rfl rfl (fun b1 => ?_)) | (refine WL_box_agg rfl rfl rfl inferInstance (fun b1 => ?_)) | (refine WL_box rfl rfl rfl rfl (fun b1 => ?_)))
  (repeat (first | (refine WC_seq ?_) | (refine WC_region ?_) | (refine WL_nil ?_) | (refine QX_then ?_) | (refine WL_val rfl rfl rfl (by first | exact val_move rfl | exact val_assign rfl | exact val_fieldAddr0 rfl | (apply val_load_blk; exact rfl; (repeat (first | exact .head | apply Pick.tail)); exact rfl) | exact val_len rfl | exact val_gtr rfl rfl) ?_)))
  refine WL_bool 18 rfl (fun ht => ?_) (fun ht => ?_)
  · have h1 := of_decide_eq_true ht
    (repeat (first | (refine WC_seq ?_) | (refine WC_region ?_) | (refine WC_ret ?_) | (refine WL_nil ?_) | (refine QX_then ?_) | (refine QX_then_ret ?_) | (refine WC_cond_true rfl ?_) | (refine WL_off rfl rfl rfl ?_) | (refine WL_val rfl rfl rfl (by first | exact val_move rfl | exact val_assign rfl | exact val_pick_true rfl rfl) ?_)))
    refine QX_ret (l := [.tmp 2]) rfl (.tmp rfl .nil) ?_
    intro w' hw'
    exact gives false hw' (by simp; intro h; have := h.nv; have := h.nb; have := h.np; have := h.nc; have := h.ns; have := h.nh; have := h.nt; omega) rfl (by repeat (first | exact Sel.nil | refine Sel.cons (by repeat (first | exact .head | apply Pick.tail | apply Put.tail)) ?_))
  have h18 := of_decide_eq_false ht
  clear ht
  (repeat (refine WL_val rfl rfl rfl (by first | exact val_move rfl | exact val_fieldAddr0 rfl | (apply val_load_blk; exact rfl; (repeat (first | exact .head | apply Pick.tail)); exact rfl) | exact val_len rfl | exact val_pick_false rfl rfl | exact val_neq rfl rfl) ?_))
  refine WL_bool 25 rfl (fun ht => ?_) (fun ht => ?_)
  · have h1 := of_decide_eq_true ht
    (repeat (first | (refine WC_seq ?_) | (refine WC_region ?_) | (refine WC_ret ?_) | (refine WL_nil ?_) | (refine QX_then ?_) | (refine QX_then_ret ?_) | (refine WC_cond_true rfl ?_) | (refine WL_off rfl rfl rfl ?_) | (refine WL_val rfl rfl rfl (by first | exact val_move rfl | exact val_assign rfl | exact val_pick_true rfl rfl) ?_)))
    refine QX_ret (l := [.tmp 2]) rfl (.tmp rfl .nil) ?_
    intro w' hw'
    exact gives false hw' (by simp; intro h; have := h.nv; have := h.nb; have := h.np; have := h.nc; have := h.ns; have := h.nh; have := h.nt; omega) rfl (by repeat (first | exact Sel.nil | refine Sel.cons (by repeat (first | exact .head | apply Pick.tail | apply Put.tail)) ?_))
  have h25 := of_decide_eq_false ht
  clear ht
  (repeat (refine WL_val rfl rfl rfl (by first | exact val_move rfl | exact val_fieldAddr0 rfl | (apply val_load_blk; exact rfl; (repeat (first | exact .head | apply Pick.tail)); exact rfl) | exact val_len rfl | exact val_pick_false rfl rfl | exact val_neq rfl rfl) ?_))
  refine WL_bool 32 rfl (fun ht => ?_) (fun ht => ?_)
  · have h1 := of_decide_eq_true ht
    (repeat (first | (refine WC_seq ?_) | (refine WC_region ?_) | (refine WC_ret ?_) | (refine WL_nil ?_) | (refine QX_then ?_) | (refine QX_then_ret ?_) | (refine WC_cond_true rfl ?_) | (refine WL_off rfl rfl rfl ?_) | (refine WL_val rfl rfl rfl (by first | exact val_move rfl | exact val_assign rfl | exact val_pick_true rfl rfl) ?_)))
    refine QX_ret (l := [.tmp 2]) rfl (.tmp rfl .nil) ?_
    intro w' hw'
    exact gives false hw' (by simp; intro h; have := h.nv; have := h.nb; have := h.np; have := h.nc; have := h.ns; have := h.nh; have := h.nt; omega) rfl (by repeat (first | exact Sel.nil | refine Sel.cons (by repeat (first | exact .head | apply Pick.tail | apply Put.tail)) ?_))
  have h32 := of_decide_eq_false ht
  clear ht
  (repeat (refine WL_val rfl rfl rfl (by first | exact val_move rfl | exact val_fieldAddr0 rfl | (apply val_load_blk; exact rfl; (repeat (first | exact .head | apply Pick.tail)); exact rfl) | exact val_len rfl | exact val_pick_false rfl rfl | exact val_neq rfl rfl) ?_))
  refine WL_bool 39 rfl (fun ht => ?_) (fun ht => ?_)
  · have h1 := of_decide_eq_true ht
    (repeat (first | (refine WC_seq ?_) | (refine WC_region ?_) | (refine WC_ret ?_) | (refine WL_nil ?_) | (refine QX_then ?_) | (refine QX_then_ret ?_) | (refine WC_cond_true rfl ?_) | (refine WL_off rfl rfl rfl ?_) | (refine WL_val rfl rfl rfl (by first | exact val_move rfl | exact val_assign rfl | exact val_pick_true rfl rfl) ?_)))
    refine QX_ret (l := [.tmp 2]) rfl (.tmp rfl .nil) ?_
    intro w' hw'
    exact gives false hw' (by simp; intro h; have := h.nv; have := h.nb; have := h.np; have := h.nc; have := h.ns; have := h.nh; have := h.nt; omega) rfl (by repeat (first | exact Sel.nil | refine Sel.cons (by repeat (first | exact .head | apply Pick.tail | apply Put.tail)) ?_))
  have h39 := of_decide_eq_false ht
  clear ht
  (repeat (refine WL_val rfl rfl rfl (by first | exact val_move rfl | exact val_fieldAddr0 rfl | (apply val_load_blk; exact rfl; (repeat (first | exact .head | apply Pick.tail)); exact rfl) | exact val_len rfl | exact val_pick_false rfl rfl | exact val_neq rfl rfl) ?_))
  refine WL_bool 46 rfl (fun ht => ?_) (fun ht => ?_)
  · have h1 := of_decide_eq_true ht
    (repeat (first | (refine WC_seq ?_) | (refine WC_region ?_) | (refine WC_ret ?_) | (refine WL_nil ?_) | (refine QX_then ?_) | (refine QX_then_ret ?_) | (refine WC_cond_true rfl ?_) | (refine WL_off rfl rfl rfl ?_) | (refine WL_val rfl rfl rfl (by first | exact val_move rfl | exact val_assign rfl | exact val_pick_true rfl rfl) ?_)))
    refine QX_ret (l := [.tmp 2]) rfl (.tmp rfl .nil) ?_
    intro w' hw'
    exact gives false hw' (by simp; intro h; have := h.nv; have := h.nb; have := h.np; have := h.nc; have := h.ns; have := h.nh; have := h.nt; omega) rfl (by repeat (first | exact Sel.nil | refine Sel.cons (by repeat (first | exact .head | apply Pick.tail | apply Put.tail)) ?_))
  have h46 := of_decide_eq_false ht
  clear ht
  (repeat (refine WL_val rfl rfl rfl (by first | exact val_move rfl | exact val_fieldAddr0 rfl | (apply val_load_blk; exact rfl; (repeat (first | exact .head | apply Pick.tail)); exact rfl) | exact val_len rfl | exact val_pick_false rfl rfl | exact val_gtr rfl rfl) ?_))
  refine WL_bool 52 rfl (fun ht => ?_) (fun ht => ?_)
  · have h1 := of_decide_eq_true ht
    (repeat (first | (refine WC_seq ?_) | (refine WC_region ?_) | (refine WC_ret ?_) | (refine WL_nil ?_) | (refine QX_then ?_) | (refine QX_then_ret ?_) | (refine WC_cond_true rfl ?_) | (refine WL_off rfl rfl rfl ?_) | (refine WL_val rfl rfl rfl (by first | exact val_assign rfl | exact val_pick_true rfl rfl) ?_)))
    refine QX_ret (l := [.tmp 2]) rfl (.tmp rfl .nil) ?_
    intro w' hw'
    exact gives false hw' (by simp; intro h; have := h.nv; have := h.nb; have := h.np; have := h.nc; have := h.ns; have := h.nh; have := h.nt; omega) rfl (by repeat (first | exact Sel.nil | refine Sel.cons (by repeat (first | exact .head | apply Pick.tail | apply Put.tail)) ?_))
  have h52 := of_decide_eq_false ht
  clear ht
  (repeat (first | (refine WL_nil ?_) | (refine QX_then ?_) | (refine WL_val rfl rfl rfl (by first | exact val_fieldAddr0 rfl | (apply val_load_blk; exact rfl; (repeat (first | exact .head | apply Pick.tail)); exact rfl) | exact val_len rfl | exact val_pick_false rfl rfl | exact val_gtr rfl rfl) ?_)))
  refine WC_cond rfl (fun ht => ?_) (fun ht => ?_)
  · have h1 := of_decide_eq_true ht
    (repeat (first | (refine WC_seq ?_) | (refine WC_region ?_) | (refine WC_ret ?_) | (refine WL_nil ?_) | (refine QX_then ?_) | (refine QX_then_ret ?_) | (refine WL_val rfl rfl rfl (by exact val_assign rfl) ?_)))
    refine QX_ret (l := [.tmp 2]) rfl (.tmp rfl .nil) ?_
    intro w' hw'
    exact gives false hw' (by simp; intro h; have := h.nv; have := h.nb; have := h.np; have := h.nc; have := h.ns; have := h.nh; have := h.nt; omega) rfl (by repeat (first | exact Sel.nil | refine Sel.cons (by repeat (first | exact .head | apply Pick.tail | apply Put.tail)) ?_))
  have h57 := of_decide_eq_false ht
  clear ht
  (repeat (first | (refine WC_seq ?_) | (refine WC_region ?_) | (refine WC_skip ?_) | (refine QX_then ?_) | (refine WL_val rfl rfl rfl (by first | exact val_move rfl | exact val_fieldAddr0 rfl | (apply val_load_blk; exact rfl; (repeat (first | exact .head | apply Pick.tail)); exact rfl) | exact val_geq rfl rfl) ?_)))
  have hs64 := x.slot.toNat_lt
  refine WL_bool 61 rfl (fun ht => ?_) (fun ht => ?_)
  · have h1 := of_decide_eq_true ht
    (repeat (first | (refine WC_seq ?_) | (refine WC_region ?_) | (refine WC_ret ?_) | (refine WL_nil ?_) | (refine QX_then ?_) | (refine QX_then_ret ?_) | (refine WC_cond_true rfl ?_) | (refine WL_off rfl rfl rfl ?_) | (refine WL_val rfl rfl rfl (by first | exact val_move rfl | exact val_assign rfl | exact val_pick_true rfl rfl) ?_)))
    refine QX_ret (l := [.tmp 2]) rfl (.tmp rfl .nil) ?_
    intro w' hw'
    exact gives false hw' (by simp; intro h; have := h.slot; have := h.deps; omega) rfl (by repeat (first | exact Sel.nil | refine Sel.cons (by repeat (first | exact .head | apply Pick.tail | apply Put.tail)) ?_))
  have h61 := of_decide_eq_false ht
  clear ht
  (repeat (refine WL_val rfl rfl rfl (by first | exact val_move rfl | exact val_fieldAddr0 rfl | (apply val_load_blk; exact rfl; (repeat (first | exact .head | apply Pick.tail)); exact rfl) | exact val_pick_false rfl rfl | exact val_geq rfl rfl) ?_))
  refine WL_bool 66 rfl (fun ht => ?_) (fun ht => ?_)
  · have h1 := of_decide_eq_true ht
    (repeat (first | (refine WC_seq ?_) | (refine WC_region ?_) | (refine WC_ret ?_) | (refine WL_nil ?_) | (refine QX_then ?_) | (refine QX_then_ret ?_) | (refine WC_cond_true rfl ?_) | (refine WL_off rfl rfl rfl ?_) | (refine WL_val rfl rfl rfl (by first | exact val_assign rfl | exact val_pick_true rfl rfl) ?_)))
    refine QX_ret (l := [.tmp 2]) rfl (.tmp rfl .nil) ?_
    intro w' hw'
    exact gives false hw' (by simp; intro h; have := h.slot; have := h.deps; omega) rfl (by repeat (first | exact Sel.nil | refine Sel.cons (by repeat (first | exact .head | apply Pick.tail | apply Put.tail)) ?_))
  have h66 := of_decide_eq_false ht
  clear ht
  (repeat (first | (refine WL_nil ?_) | (refine QX_then ?_) | (refine WL_val rfl rfl rfl (by first | exact val_fieldAddr0 rfl | exact val_fieldAddr_0 rfl | (apply val_load_blk; exact rfl; (repeat (first | exact .head | apply Pick.tail)); exact rfl) | exact val_pick_false rfl rfl | exact val_gtr rfl rfl) ?_)))
  refine WC_cond rfl (fun ht => ?_) (fun ht => ?_)
  · have h1 := of_decide_eq_true ht
    (repeat (first | (refine WC_seq ?_) | (refine WC_region ?_) | (refine WC_ret ?_) | (refine WL_nil ?_) | (refine QX_then ?_) | (refine QX_then_ret ?_) | (refine WL_val rfl rfl rfl (by exact val_assign rfl) ?_)))
    refine QX_ret (l := [.tmp 2]) rfl (.tmp rfl .nil) ?_
    intro w' hw'
    exact gives false hw' (by simp; intro h; have := h.head; omega) rfl (by repeat (first | exact Sel.nil | refine Sel.cons (by repeat (first | exact .head | apply Pick.tail | apply Put.tail)) ?_))
  have h73 := of_decide_eq_false ht
  clear ht
  (repeat (first | (refine WC_seq ?_) | (refine WC_region ?_) | (refine WC_skip ?_) | (refine WL_nil ?_) | (refine QX_then ?_) | (refine WL_val rfl rfl rfl (by first | exact val_assign rfl | exact val_fieldAddr0 rfl | (apply val_load_blk; exact rfl; (repeat (first | exact .head | apply Pick.tail)); exact rfl) | (apply val_load_blk_agg; exact rfl; (repeat (first | exact .head | apply Pick.tail)); exact rfl) | (apply val_quoU; exact rfl; exact rfl; decide; omega; omega)) ?_)))
  refine WL_val rfl rfl rfl (val_buildArr (vs := [(0, aggS (ckS x.oldJust)), (1, aggS (ckS x.just)), (2, aggS (ckS x.final))]) (q' := ck3S x) rfl ?_) ?_
  · exact .cons (off := 0) (k := 33) rfl rfl inferInstance (by repeat (first | exact PutSeg.one | apply PutSeg.skip | apply PutSeg.next | exact PutSeg.inner rfl)) (.cons (off := 33) (k := 33) rfl rfl inferInstance (by repeat (first | exact PutSeg.one | apply PutSeg.skip | apply PutSeg.next | exact PutSeg.inner rfl)) (.cons (off := 66) (k := 33) rfl rfl inferInstance (by repeat (first | exact PutSeg.one | apply PutSeg.skip | apply PutSeg.next | exact PutSeg.inner rfl)) .nil))
  (repeat (first | (refine WC_block ?_) | (refine WL_nil ?_) | (refine QX_then ?_) | (refine WL_val rfl rfl rfl (by exact val_move rfl) ?_)))
  refine WC_loopS (G := Nat) (fun i => i ≤ 3 ∧ (0 < i → x.oldJust.epoch.toNat ≤ x.slot.toNat / 4) ∧ (1 < i → x.just.epoch.toNat ≤ x.slot.toNat / 4) ∧ (2 < i → x.final.epoch.toNat ≤ x.slot.toNat / 4))
    (fun i => [(1, .pointer (some ⟨b1, 0, none⟩)), (4, .int .u64 ((x.slot.toNat : Int) / 4)), (83, aggS (ck3S x)), (84, .int .i64 i)]) (fun _ => [.blk b1 (stateS x a) 49]) (fun i => 3 - i) 0
    ⟨by decide, by omega, by omega, by omega⟩ ⟨rfl, rfl, rfl, rfl, trivial⟩ (by repeat (first | exact Sel.nil | refine Sel.cons (by repeat (first | exact .head | apply Pick.tail | apply Put.tail)) ?_)) ?_
  intro i hi
  (repeat (first | (refine WC_seq ?_) | (refine WC_region ?_) | (refine WL_nil ?_) | (refine QX_then ?_) | (refine WL_val rfl rfl rfl (by exact val_lss rfl rfl) ?_)))
  refine WC_cond rfl (fun ht => ?_) (fun ht => ?_)
  · have hlt : i < 3 := by have := of_decide_eq_true ht; omega
    clear ht
    obtain rfl | rfl | rfl : i = 0 ∨ i = 1 ∨ i = 2 := by omega
    · (repeat (first | (refine WC_seq ?_) | (refine WC_block ?_) | (refine WC_region ?_) | (refine WC_skip ?_) | (refine QX_then ?_)))
      refine WL_val rfl rfl rfl (val_indexS (q' := ckS x.oldJust) rfl rfl (by decide) (by decide) inferInstance rfl) ?_
      (first | (refine WL_alloc rfl rfl (fun b6 => ?_)) | (refine WL_box_agg rfl rfl rfl inferInstance (fun b6 => ?_)) | (refine WL_box rfl rfl rfl rfl (fun b6 => ?_)))
      (first | (refine WL_store rfl rfl rfl rfl (by repeat (first | exact .head | apply Pick.tail | apply Put.tail)) (by repeat (first | exact PutSeg.one | apply PutSeg.skip | apply PutSeg.next | exact PutSeg.inner rfl)) ?_) | (refine WL_store_agg rfl rfl rfl (by repeat (first | exact .head | apply Pick.tail | apply Put.tail)) (by repeat (first | exact PutSeg.one | apply PutSeg.skip | apply PutSeg.next | exact PutSeg.inner rfl)) ?_))
      (repeat (first | (refine WC_seq ?_) | (refine WC_region ?_) | (refine WL_nil ?_) | (refine QX_then ?_) | (refine WL_val rfl rfl rfl (by first | exact val_move rfl | exact val_fieldAddr0 rfl | (apply val_load_blk; exact rfl; (repeat (first | exact .head | apply Pick.tail)); exact rfl) | exact val_gtr rfl rfl) ?_)))
      refine WC_cond rfl (fun ht => ?_) (fun ht => ?_)
      · have h1 := of_decide_eq_true ht
        (repeat (first | (refine WC_seq ?_) | (refine WC_region ?_) | (refine WC_ret ?_) | (refine WL_nil ?_) | (refine QX_then ?_) | (refine QX_then_ret ?_) | (refine QX_block_ret ?_) | (refine WL_val rfl rfl rfl (by exact val_assign rfl) ?_)))
        refine QX_ret (l := [.tmp 2]) rfl (.tmp rfl .nil) ?_
        intro w' hw'
        exact gives false hw' (by simp; intro h; have := h.oj; omega) rfl (by repeat (first | exact Sel.nil | refine Sel.cons (by repeat (first | exact .head | apply Pick.tail | apply Put.tail)) ?_))
      · have h1 := of_decide_eq_false ht
        (repeat (first | (refine WC_region ?_) | (refine WC_skip ?_) | (refine WL_nil ?_) | (refine QX_then ?_) | (refine QX_block ?_) | (refine WL_val rfl rfl rfl (by first | exact val_move rfl | (apply val_addI; exact rfl; exact rfl; omega; omega)) ?_)))
        exact QX_againS (0 + 1) (by omega) (by omega) ⟨rfl, rfl, rfl, rfl, trivial⟩ (by repeat (first | exact Sel.nil | refine Sel.cons (by repeat (first | exact .head | apply Pick.tail | apply Put.tail)) ?_))
    · (repeat (first | (refine WC_seq ?_) | (refine WC_block ?_) | (refine WC_region ?_) | (refine WC_skip ?_) | (refine QX_then ?_)))
      refine WL_val rfl rfl rfl (val_indexS (q' := ckS x.just) rfl rfl (by decide) (by decide) inferInstance rfl) ?_
      (first | (refine WL_alloc rfl rfl (fun b6 => ?_)) | (refine WL_box_agg rfl rfl rfl inferInstance (fun b6 => ?_)) | (refine WL_box rfl rfl rfl rfl (fun b6 => ?_)))
      (first | (refine WL_store rfl rfl rfl rfl (by repeat (first | exact .head | apply Pick.tail | apply Put.tail)) (by repeat (first | exact PutSeg.one | apply PutSeg.skip | apply PutSeg.next | exact PutSeg.inner rfl)) ?_) | (refine WL_store_agg rfl rfl rfl (by repeat (first | exact .head | apply Pick.tail | apply Put.tail)) (by repeat (first | exact PutSeg.one | apply PutSeg.skip | apply PutSeg.next | exact PutSeg.inner rfl)) ?_))
      (repeat (first | (refine WC_seq ?_) | (refine WC_region ?_) | (refine WL_nil ?_) | (refine QX_then ?_) | (refine WL_val rfl rfl rfl (by first | exact val_move rfl | exact val_fieldAddr0 rfl | (apply val_load_blk; exact rfl; (repeat (first | exact .head | apply Pick.tail)); exact rfl) | exact val_gtr rfl rfl) ?_)))
      refine WC_cond rfl (fun ht => ?_) (fun ht => ?_)
      · have h1 := of_decide_eq_true ht
        (repeat (first | (refine WC_seq ?_) | (refine WC_region ?_) | (refine WC_ret ?_) | (refine WL_nil ?_) | (refine QX_then ?_) | (refine QX_then_ret ?_) | (refine QX_block_ret ?_) | (refine WL_val rfl rfl rfl (by exact val_assign rfl) ?_)))
        refine QX_ret (l := [.tmp 2]) rfl (.tmp rfl .nil) ?_
        intro w' hw'
        exact gives false hw' (by simp; intro h; have := h.j; omega) rfl (by repeat (first | exact Sel.nil | refine Sel.cons (by repeat (first | exact .head | apply Pick.tail | apply Put.tail)) ?_))
      · have h1 := of_decide_eq_false ht
        (repeat (first | (refine WC_region ?_) | (refine WC_skip ?_) | (refine WL_nil ?_) | (refine QX_then ?_) | (refine QX_block ?_) | (refine WL_val rfl rfl rfl (by first | exact val_move rfl | (apply val_addI; exact rfl; exact rfl; omega; omega)) ?_)))
        exact QX_againS (1 + 1) (by omega) (by omega) ⟨rfl, rfl, rfl, rfl, trivial⟩ (by repeat (first | exact Sel.nil | refine Sel.cons (by repeat (first | exact .head | apply Pick.tail | apply Put.tail)) ?_))
    · (repeat (first | (refine WC_seq ?_) | (refine WC_block ?_) | (refine WC_region ?_) | (refine WC_skip ?_) | (refine QX_then ?_)))
      refine WL_val rfl rfl rfl (val_indexS (q' := ckS x.final) rfl rfl (by decide) (by decide) inferInstance rfl) ?_
      (first | (refine WL_alloc rfl rfl (fun b6 => ?_)) | (refine WL_box_agg rfl rfl rfl inferInstance (fun b6 => ?_)) | (refine WL_box rfl rfl rfl rfl (fun b6 => ?_)))
      (first | (refine WL_store rfl rfl rfl rfl (by repeat (first | exact .head | apply Pick.tail | apply Put.tail)) (by repeat (first | exact PutSeg.one | apply PutSeg.skip | apply PutSeg.next | exact PutSeg.inner rfl)) ?_) | (refine WL_store_agg rfl rfl rfl (by repeat (first | exact .head | apply Pick.tail | apply Put.tail)) (by repeat (first | exact PutSeg.one | apply PutSeg.skip | apply PutSeg.next | exact PutSeg.inner rfl)) ?_))
      (repeat (first | (refine WC_seq ?_) | (refine WC_region ?_) | (refine WL_nil ?_) | (refine QX_then ?_) | (refine WL_val rfl rfl rfl (by first | exact val_move rfl | exact val_fieldAddr0 rfl | (apply val_load_blk; exact rfl; (repeat (first | exact .head | apply Pick.tail)); exact rfl) | exact val_gtr rfl rfl) ?_)))
      refine WC_cond rfl (fun ht => ?_) (fun ht => ?_)
      · have h1 := of_decide_eq_true ht
        (repeat (first | (refine WC_seq ?_) | (refine WC_region ?_) | (refine WC_ret ?_) | (refine WL_nil ?_) | (refine QX_then ?_) | (refine QX_then_ret ?_) | (refine QX_block_ret ?_) | (refine WL_val rfl rfl rfl (by exact val_assign rfl) ?_)))
        refine QX_ret (l := [.tmp 2]) rfl (.tmp rfl .nil) ?_
        intro w' hw'
        exact gives false hw' (by simp; intro h; have := h.f; omega) rfl (by repeat (first | exact Sel.nil | refine Sel.cons (by repeat (first | exact .head | apply Pick.tail | apply Put.tail)) ?_))
      · have h1 := of_decide_eq_false ht
        (repeat (first | (refine WC_region ?_) | (refine WC_skip ?_) | (refine WL_nil ?_) | (refine QX_then ?_) | (refine QX_block ?_) | (refine WL_val rfl rfl rfl (by first | exact val_move rfl | (apply val_addI; exact rfl; exact rfl; omega; omega)) ?_)))
        exact QX_againS (2 + 1) (by omega) (by omega) ⟨rfl, rfl, rfl, rfl, trivial⟩ (by repeat (first | exact Sel.nil | refine Sel.cons (by repeat (first | exact .head | apply Pick.tail | apply Put.tail)) ?_))
  obtain rfl : i = 3 := by have := of_decide_eq_false ht; omega
  clear ht
  obtain ⟨_, k1, k2, k3⟩ := hi
  have k1 := k1 (by decide)
  have k2 := k2 (by decide)
  have k3 := k3 (by decide)
  (repeat (first | (refine WC_seq ?_) | (refine WC_block ?_) | (refine WC_region ?_) | (refine WC_exit ?_) | (refine WL_nil ?_) | (refine QX_then ?_) | (refine QX_then_exit ?_) | (refine QX_block_exit ?_) | (refine WL_val rfl rfl rfl (by first | exact val_move rfl | exact val_fieldAddr0 rfl | (apply val_load_blk; exact rfl; (repeat (first | exact .head | apply Pick.tail)); exact rfl) | exact val_len rfl) ?_)))
  refine WC_loopS (G := Nat) (fun i => i ≤ x.validators.length ∧ ∀ k (h : k < x.validators.length), k < i → ValRight x.validators[k])
    (fun i => [(1, .pointer (some ⟨b1, 0, none⟩)), (93, a.validators.sl x.validators.length), (94, .int .i64 x.validators.length), (95, .int .i64 i)]) (fun _ => [.blk b1 (stateS x a) 49]) (fun i => x.validators.length - i) 0
    ⟨Nat.zero_le _, by omega⟩ ⟨rfl, rfl, rfl, rfl, trivial⟩ (by repeat (first | exact Sel.nil | refine Sel.cons (by repeat (first | exact .head | apply Pick.tail | apply Put.tail)) ?_)) ?_
  intro i hi
  obtain ⟨hi, hv⟩ := hi
  (repeat (first | (refine WC_seq ?_) | (refine WC_region ?_) | (refine WL_nil ?_) | (refine QX_then ?_) | (refine WL_val rfl rfl rfl (by exact val_lss rfl rfl) ?_)))
  refine WC_cond rfl (fun ht => ?_) (fun ht => ?_)
  · have hlt : i < x.validators.length := by have := of_decide_eq_true ht; omega
    clear ht
    obtain ⟨b, oo, hp, hr⟩ := SlV.posOld hL.validators.1 hL.validators.2 (by omega) (by decide)
    (repeat (first | (refine WC_seq ?_) | (refine WC_block ?_) | (refine WC_region ?_) | (refine WC_skip ?_) | (refine QX_then ?_)))
    refine WL_val rfl rfl rfl (val_indexAddrP hp rfl rfl hlt) ?_
    refine WL_val rfl rfl rfl (val_load_row (q := valS x.validators[i]) rfl (hr _) (drop_take_flatMap valC 86 _ i hlt (fun _ _ => valC_length _)) (valC_length _)) ?_
    (first | (refine WL_alloc rfl rfl (fun b8 => ?_)) | (refine WL_box_agg rfl rfl rfl inferInstance (fun b8 => ?_)) | (refine WL_box rfl rfl rfl rfl (fun b8 => ?_)))
    (first | (refine WL_store rfl rfl rfl rfl (by repeat (first | exact .head | apply Pick.tail | apply Put.tail)) (by repeat (first | exact PutSeg.one | apply PutSeg.skip | apply PutSeg.next | exact PutSeg.inner rfl)) ?_) | (refine WL_store_agg rfl rfl rfl (by repeat (first | exact .head | apply Pick.tail | apply Put.tail)) (by repeat (first | exact PutSeg.one | apply PutSeg.skip | apply PutSeg.next | exact PutSeg.inner rfl)) ?_))
    generalize hx : x.validators[i] = v
    have hmem : v ∈ x.validators := hx ▸ List.getElem_mem hlt
    have e64 := v.eff.toNat_lt
    (repeat (first | (refine WC_seq ?_) | (refine WC_region ?_) | (refine WL_nil ?_) | (refine QX_then ?_) | (refine WL_val rfl rfl rfl (by first | exact val_move rfl | exact val_fieldAddr0 rfl | (apply val_load_blk; exact rfl; (repeat (first | exact .head | apply Pick.tail)); exact rfl) | exact val_gtr rfl rfl) ?_)))
    refine WL_bool 102 rfl (fun ht => ?_) (fun ht => ?_)
    · have h1 := of_decide_eq_true ht
      (repeat (first | (refine WC_seq ?_) | (refine WC_region ?_) | (refine WC_ret ?_) | (refine WL_nil ?_) | (refine QX_then ?_) | (refine QX_then_ret ?_) | (refine QX_block_ret ?_) | (refine WC_cond_true rfl ?_) | (refine WL_off rfl rfl rfl ?_) | (refine WL_val rfl rfl rfl (by first | exact val_assign rfl | exact val_pick_true rfl rfl) ?_)))
      refine QX_ret (l := [.tmp 2]) rfl (.tmp rfl .nil) ?_
      intro w' hw'
      exact gives false hw' (by simp; intro h; have := (h.vals v hmem).most; omega) rfl (by repeat (first | exact Sel.nil | refine Sel.cons (by repeat (first | exact .head | apply Pick.tail | apply Put.tail)) ?_))
    have q1 := of_decide_eq_false ht
    clear ht
    (repeat (first | (refine WL_nil ?_) | (refine QX_then ?_) | (refine WL_val rfl rfl rfl (by first | exact val_fieldAddr0 rfl | (apply val_load_blk; exact rfl; (repeat (first | exact .head | apply Pick.tail)); exact rfl) | exact val_pick_false rfl rfl | exact val_neq rfl rfl | (apply val_remI; exact rfl; exact rfl; decide; omega)) ?_)))
    refine WC_cond rfl (fun ht => ?_) (fun ht => ?_)
    · have h1 := of_decide_eq_true ht
      (repeat (first | (refine WC_seq ?_) | (refine WC_region ?_) | (refine WC_ret ?_) | (refine WL_nil ?_) | (refine QX_then ?_) | (refine QX_then_ret ?_) | (refine QX_block_ret ?_) | (refine WL_val rfl rfl rfl (by exact val_assign rfl) ?_)))
      refine QX_ret (l := [.tmp 2]) rfl (.tmp rfl .nil) ?_
      intro w' hw'
      exact gives false hw' (by simp; intro h; have := (h.vals v hmem).whole; omega) rfl (by repeat (first | exact Sel.nil | refine Sel.cons (by repeat (first | exact .head | apply Pick.tail | apply Put.tail)) ?_))
    have q2 := of_decide_eq_false ht
    clear ht
    (repeat (first | (refine WC_seq ?_) | (refine WC_region ?_) | (refine WC_skip ?_) | (refine QX_then ?_) | (refine WL_val rfl rfl rfl (by first | exact val_fieldAddr0 rfl | (apply val_load_blk; exact rfl; (repeat (first | exact .head | apply Pick.tail)); exact rfl)) ?_)))
    refine WL_val rfl rfl rfl (val_buildArr (vs := [(0, u64 v.elig), (1, u64 v.act), (2, u64 v.exit), (3, u64 v.wd)]) (q' := ep4S v) rfl ?_) ?_
    · exact .cons (off := 0) (k := 1) (new := [(1, [u64 v.elig])]) rfl rfl inferInstance (by repeat (first | exact PutSeg.one | apply PutSeg.skip | apply PutSeg.next | exact PutSeg.inner rfl)) (.cons (off := 1) (k := 1) (new := [(1, [u64 v.act])]) rfl rfl inferInstance (by repeat (first | exact PutSeg.one | apply PutSeg.skip | apply PutSeg.next | exact PutSeg.inner rfl)) (.cons (off := 2) (k := 1) (new := [(1, [u64 v.exit])]) rfl rfl inferInstance (by repeat (first | exact PutSeg.one | apply PutSeg.skip | apply PutSeg.next | exact PutSeg.inner rfl)) (.cons (off := 3) (k := 1) (new := [(1, [u64 v.wd])]) rfl rfl inferInstance (by repeat (first | exact PutSeg.one | apply PutSeg.skip | apply PutSeg.next | exact PutSeg.inner rfl)) .nil)))
    (repeat (first | (refine WC_block ?_) | (refine WL_nil ?_) | (refine QX_then ?_) | (refine WL_val rfl rfl rfl (by exact val_move rfl) ?_)))
    refine WC_loopS (G := Nat) (fun k => k ≤ 4 ∧ (0 < k → EpOk v.elig) ∧ (1 < k → EpOk v.act) ∧ (2 < k → EpOk v.exit) ∧ (3 < k → EpOk v.wd))
      (fun k => [(1, .pointer (some ⟨b1, 0, none⟩)), (93, a.validators.sl x.validators.length), (94, .int .i64 x.validators.length), (95, .int .i64 i), (116, aggS (ep4S v)), (117, .int .i64 k)]) (fun _ => [.blk b1 (stateS x a) 49]) (fun k => 4 - k) 0
      ⟨by decide, by omega, by omega, by omega, by omega⟩ ⟨rfl, rfl, rfl, rfl, rfl, rfl, trivial⟩ (by repeat (first | exact Sel.nil | refine Sel.cons (by repeat (first | exact .head | apply Pick.tail | apply Put.tail)) ?_)) ?_
    intro k hk
    (repeat (first | (refine WC_seq ?_) | (refine WC_region ?_) | (refine WL_nil ?_) | (refine QX_then ?_) | (refine WL_val rfl rfl rfl (by exact val_lss rfl rfl) ?_)))
    refine WC_cond rfl (fun ht => ?_) (fun ht => ?_)
    · have hlt : k < 4 := by have := of_decide_eq_true ht; omega
      clear ht
      obtain rfl | rfl | rfl | rfl : k = 0 ∨ k = 1 ∨ k = 2 ∨ k = 3 := by omega
      · (repeat (first | (refine WC_seq ?_) | (refine WC_block ?_) | (refine WC_region ?_) | (refine WC_skip ?_) | (refine QX_then ?_)))
        refine WL_val rfl rfl rfl (val_indexS1 (v := u64 v.elig) rfl rfl (by decide) (by decide) inferInstance rfl) ?_
        (repeat (first | (refine WC_seq ?_) | (refine WC_region ?_) | (refine WL_nil ?_) | (refine QX_then ?_) | (refine WL_val rfl rfl rfl (by first | exact val_move rfl | exact val_assign rfl | exact val_neq rfl rfl) ?_)))
        refine WL_bool 122 rfl (fun ht => ?_) (fun ht => ?_)
        · have h1 := of_decide_eq_true ht
          (repeat (first | (refine WL_nil ?_) | (refine QX_then ?_) | (refine WL_val rfl rfl rfl (by first | exact val_move rfl | exact val_pick_true rfl rfl | exact val_geq rfl rfl) ?_)))
          refine WC_cond rfl (fun ht => ?_) (fun ht => ?_)
          · have h2 := of_decide_eq_true ht
            (repeat (first | (refine WC_seq ?_) | (refine WC_region ?_) | (refine WC_ret ?_) | (refine WL_nil ?_) | (refine QX_then ?_) | (refine QX_then_ret ?_) | (refine QX_block_ret ?_) | (refine WL_val rfl rfl rfl (by exact val_assign rfl) ?_)))
            refine QX_ret (l := [.tmp 2]) rfl (.tmp rfl .nil) ?_
            intro w' hw'
            exact gives false hw' (by simp; intro h; rcases (h.vals v hmem).elig with h | h <;> omega) rfl (by repeat (first | exact Sel.nil | refine Sel.cons (by repeat (first | exact .head | apply Pick.tail | apply Put.tail)) ?_))
          · have h2 := of_decide_eq_false ht
            (repeat (first | (refine WC_region ?_) | (refine WC_skip ?_) | (refine WL_nil ?_) | (refine QX_then ?_) | (refine QX_block ?_) | (refine WL_val rfl rfl rfl (by first | exact val_move rfl | (apply val_addI; exact rfl; exact rfl; omega; omega)) ?_)))
            exact QX_againS (0 + 1) (by have : EpOk v.elig := .inr (by omega); simp_all) (by omega) ⟨rfl, rfl, rfl, rfl, rfl, rfl, trivial⟩ (by repeat (first | exact Sel.nil | refine Sel.cons (by repeat (first | exact .head | apply Pick.tail | apply Put.tail)) ?_))
        · have h1 := of_decide_eq_false ht
          (repeat (first | (refine WC_region ?_) | (refine WC_skip ?_) | (refine WL_nil ?_) | (refine QX_then ?_) | (refine QX_block ?_) | (refine WC_cond_false rfl ?_) | (refine WL_off rfl rfl rfl ?_) | (refine WL_val rfl rfl rfl (by first | exact val_move rfl | exact val_pick_false rfl rfl | (apply val_addI; exact rfl; exact rfl; omega; omega)) ?_)))
          exact QX_againS (0 + 1) (by have : EpOk v.elig := .inl (by omega); simp_all) (by omega) ⟨rfl, rfl, rfl, rfl, rfl, rfl, trivial⟩ (by repeat (first | exact Sel.nil | refine Sel.cons (by repeat (first | exact .head | apply Pick.tail | apply Put.tail)) ?_))
      · (repeat (first | (refine WC_seq ?_) | (refine WC_block ?_) | (refine WC_region ?_) | (refine WC_skip ?_) | (refine QX_then ?_)))
        refine WL_val rfl rfl rfl (val_indexS1 (v := u64 v.act) rfl rfl (by decide) (by decide) inferInstance rfl) ?_
        (repeat (first | (refine WC_seq ?_) | (refine WC_region ?_) | (refine WL_nil ?_) | (refine QX_then ?_) | (refine WL_val rfl rfl rfl (by first | exact val_move rfl | exact val_assign rfl | exact val_neq rfl rfl) ?_)))
        refine WL_bool 122 rfl (fun ht => ?_) (fun ht => ?_)
        · have h1 := of_decide_eq_true ht
          (repeat (first | (refine WL_nil ?_) | (refine QX_then ?_) | (refine WL_val rfl rfl rfl (by first | exact val_move rfl | exact val_pick_true rfl rfl | exact val_geq rfl rfl) ?_)))
          refine WC_cond rfl (fun ht => ?_) (fun ht => ?_)
          · have h2 := of_decide_eq_true ht
            (repeat (first | (refine WC_seq ?_) | (refine WC_region ?_) | (refine WC_ret ?_) | (refine WL_nil ?_) | (refine QX_then ?_) | (refine QX_then_ret ?_) | (refine QX_block_ret ?_) | (refine WL_val rfl rfl rfl (by exact val_assign rfl) ?_)))
            refine QX_ret (l := [.tmp 2]) rfl (.tmp rfl .nil) ?_
            intro w' hw'
            exact gives false hw' (by simp; intro h; rcases (h.vals v hmem).act with h | h <;> omega) rfl (by repeat (first | exact Sel.nil | refine Sel.cons (by repeat (first | exact .head | apply Pick.tail | apply Put.tail)) ?_))
          · have h2 := of_decide_eq_false ht
            (repeat (first | (refine WC_region ?_) | (refine WC_skip ?_) | (refine WL_nil ?_) | (refine QX_then ?_) | (refine QX_block ?_) | (refine WL_val rfl rfl rfl (by first | exact val_move rfl | (apply val_addI; exact rfl; exact rfl; omega; omega)) ?_)))
            exact QX_againS (1 + 1) (by have : EpOk v.act := .inr (by omega); simp_all) (by omega) ⟨rfl, rfl, rfl, rfl, rfl, rfl, trivial⟩ (by repeat (first | exact Sel.nil | refine Sel.cons (by repeat (first | exact .head | apply Pick.tail | apply Put.tail)) ?_))
        · have h1 := of_decide_eq_false ht
          (repeat (first | (refine WC_region ?_) | (refine WC_skip ?_) | (refine WL_nil ?_) | (refine QX_then ?_) | (refine QX_block ?_) | (refine WC_cond_false rfl ?_) | (refine WL_off rfl rfl rfl ?_) | (refine WL_val rfl rfl rfl (by first | exact val_move rfl | exact val_pick_false rfl rfl | (apply val_addI; exact rfl; exact rfl; omega; omega)) ?_)))
          exact QX_againS (1 + 1) (by have : EpOk v.act := .inl (by omega); simp_all) (by omega) ⟨rfl, rfl, rfl, rfl, rfl, rfl, trivial⟩ (by repeat (first | exact Sel.nil | refine Sel.cons (by repeat (first | exact .head | apply Pick.tail | apply Put.tail)) ?_))
      · (repeat (first | (refine WC_seq ?_) | (refine WC_block ?_) | (refine WC_region ?_) | (refine WC_skip ?_) | (refine QX_then ?_)))
        refine WL_val rfl rfl rfl (val_indexS1 (v := u64 v.exit) rfl rfl (by decide) (by decide) inferInstance rfl) ?_
        (repeat (first | (refine WC_seq ?_) | (refine WC_region ?_) | (refine WL_nil ?_) | (refine QX_then ?_) | (refine WL_val rfl rfl rfl (by first | exact val_move rfl | exact val_assign rfl | exact val_neq rfl rfl) ?_)))
        refine WL_bool 122 rfl (fun ht => ?_) (fun ht => ?_)
        · have h1 := of_decide_eq_true ht
          (repeat (first | (refine WL_nil ?_) | (refine QX_then ?_) | (refine WL_val rfl rfl rfl (by first | exact val_move rfl | exact val_pick_true rfl rfl | exact val_geq rfl rfl) ?_)))
          refine WC_cond rfl (fun ht => ?_) (fun ht => ?_)
          · have h2 := of_decide_eq_true ht
            (repeat (first | (refine WC_seq ?_) | (refine WC_region ?_) | (refine WC_ret ?_) | (refine WL_nil ?_) | (refine QX_then ?_) | (refine QX_then_ret ?_) | (refine QX_block_ret ?_) | (refine WL_val rfl rfl rfl (by exact val_assign rfl) ?_)))
            refine QX_ret (l := [.tmp 2]) rfl (.tmp rfl .nil) ?_
            intro w' hw'
            exact gives false hw' (by simp; intro h; rcases (h.vals v hmem).exit with h | h <;> omega) rfl (by repeat (first | exact Sel.nil | refine Sel.cons (by repeat (first | exact .head | apply Pick.tail | apply Put.tail)) ?_))
          · have h2 := of_decide_eq_false ht
            (repeat (first | (refine WC_region ?_) | (refine WC_skip ?_) | (refine WL_nil ?_) | (refine QX_then ?_) | (refine QX_block ?_) | (refine WL_val rfl rfl rfl (by first | exact val_move rfl | (apply val_addI; exact rfl; exact rfl; omega; omega)) ?_)))
            exact QX_againS (2 + 1) (by have : EpOk v.exit := .inr (by omega); simp_all) (by omega) ⟨rfl, rfl, rfl, rfl, rfl, rfl, trivial⟩ (by repeat (first | exact Sel.nil | refine Sel.cons (by repeat (first | exact .head | apply Pick.tail | apply Put.tail)) ?_))
        · have h1 := of_decide_eq_false ht
          (repeat (first | (refine WC_region ?_) | (refine WC_skip ?_) | (refine WL_nil ?_) | (refine QX_then ?_) | (refine QX_block ?_) | (refine WC_cond_false rfl ?_) | (refine WL_off rfl rfl rfl ?_) | (refine WL_val rfl rfl rfl (by first | exact val_move rfl | exact val_pick_false rfl rfl | (apply val_addI; exact rfl; exact rfl; omega; omega)) ?_)))
          exact QX_againS (2 + 1) (by have : EpOk v.exit := .inl (by omega); simp_all) (by omega) ⟨rfl, rfl, rfl, rfl, rfl, rfl, trivial⟩ (by repeat (first | exact Sel.nil | refine Sel.cons (by repeat (first | exact .head | apply Pick.tail | apply Put.tail)) ?_))
      · (repeat (first | (refine WC_seq ?_) | (refine WC_block ?_) | (refine WC_region ?_) | (refine WC_skip ?_) | (refine QX_then ?_)))
        refine WL_val rfl rfl rfl (val_indexS1 (v := u64 v.wd) rfl rfl (by decide) (by decide) inferInstance rfl) ?_
        (repeat (first | (refine WC_seq ?_) | (refine WC_region ?_) | (refine WL_nil ?_) | (refine QX_then ?_) | (refine WL_val rfl rfl rfl (by first | exact val_move rfl | exact val_assign rfl | exact val_neq rfl rfl) ?_)))
        refine WL_bool 122 rfl (fun ht => ?_) (fun ht => ?_)
        · have h1 := of_decide_eq_true ht
          (repeat (first | (refine WL_nil ?_) | (refine QX_then ?_) | (refine WL_val rfl rfl rfl (by first | exact val_move rfl | exact val_pick_true rfl rfl | exact val_geq rfl rfl) ?_)))
          refine WC_cond rfl (fun ht => ?_) (fun ht => ?_)
          · have h2 := of_decide_eq_true ht
            (repeat (first | (refine WC_seq ?_) | (refine WC_region ?_) | (refine WC_ret ?_) | (refine WL_nil ?_) | (refine QX_then ?_) | (refine QX_then_ret ?_) | (refine QX_block_ret ?_) | (refine WL_val rfl rfl rfl (by exact val_assign rfl) ?_)))
            refine QX_ret (l := [.tmp 2]) rfl (.tmp rfl .nil) ?_
            intro w' hw'
            exact gives false hw' (by simp; intro h; rcases (h.vals v hmem).wd with h | h <;> omega) rfl (by repeat (first | exact Sel.nil | refine Sel.cons (by repeat (first | exact .head | apply Pick.tail | apply Put.tail)) ?_))
          · have h2 := of_decide_eq_false ht
            (repeat (first | (refine WC_region ?_) | (refine WC_skip ?_) | (refine WL_nil ?_) | (refine QX_then ?_) | (refine QX_block ?_) | (refine WL_val rfl rfl rfl (by first | exact val_move rfl | (apply val_addI; exact rfl; exact rfl; omega; omega)) ?_)))
            exact QX_againS (3 + 1) (by have : EpOk v.wd := .inr (by omega); simp_all) (by omega) ⟨rfl, rfl, rfl, rfl, rfl, rfl, trivial⟩ (by repeat (first | exact Sel.nil | refine Sel.cons (by repeat (first | exact .head | apply Pick.tail | apply Put.tail)) ?_))
        · have h1 := of_decide_eq_false ht
          (repeat (first | (refine WC_region ?_) | (refine WC_skip ?_) | (refine WL_nil ?_) | (refine QX_then ?_) | (refine QX_block ?_) | (refine WC_cond_false rfl ?_) | (refine WL_off rfl rfl rfl ?_) | (refine WL_val rfl rfl rfl (by first | exact val_move rfl | exact val_pick_false rfl rfl | (apply val_addI; exact rfl; exact rfl; omega; omega)) ?_)))
          exact QX_againS (3 + 1) (by have : EpOk v.wd := .inl (by omega); simp_all) (by omega) ⟨rfl, rfl, rfl, rfl, rfl, rfl, trivial⟩ (by repeat (first | exact Sel.nil | refine Sel.cons (by repeat (first | exact .head | apply Pick.tail | apply Put.tail)) ?_))
    obtain rfl : k = 4 := by have := of_decide_eq_false ht; omega
    clear ht
    obtain ⟨_, j1, j2, j3, j4⟩ := hk
    (repeat (first | (refine WC_region ?_) | (refine WC_exit ?_) | (refine WL_nil ?_) | (refine QX_then ?_) | (refine QX_then_exit ?_) | (refine QX_block ?_) | (refine QX_block_exit ?_) | (refine WL_val rfl rfl rfl (by first | exact val_move rfl | (apply val_addI; exact rfl; exact rfl; omega; omega)) ?_)))
    refine QX_againS (i + 1) ⟨by omega, fun k hk hki => ?_⟩ (by omega) ⟨rfl, rfl, rfl, rfl, trivial⟩ (by repeat (first | exact Sel.nil | refine Sel.cons (by repeat (first | exact .head | apply Pick.tail | apply Put.tail)) ?_))
    rcases Nat.lt_or_ge k i with h | h
    · exact hv k hk h
    · obtain rfl : k = i := by omega
      rw [hx]
      exact ⟨by omega, by omega, j1 (by decide), j2 (by decide), j3 (by decide), j4 (by decide)⟩
  obtain rfl : i = x.validators.length := by have := of_decide_eq_false ht; omega
  clear ht
  have hv' : ∀ v ∈ x.validators, ValRight v := fun v hm => by
    obtain ⟨k, hk, rfl⟩ := List.getElem_of_mem hm
    exact hv k hk hk
  clear hv
  (repeat (first | (refine WC_seq ?_) | (refine WC_block ?_) | (refine WC_region ?_) | (refine WC_exit ?_) | (refine WL_nil ?_) | (refine QX_then ?_) | (refine QX_then_exit ?_) | (refine QX_block_exit ?_) | (refine WL_val rfl rfl rfl (by first | exact val_move rfl | exact val_fieldAddr0 rfl | (apply val_load_blk; exact rfl; (repeat (first | exact .head | apply Pick.tail)); exact rfl) | exact val_len rfl) ?_)))
  refine WC_loopS (G := Nat) (fun i => i ≤ x.scores.length ∧ ∀ k (h : k < x.scores.length), k < i → x.scores[k].toNat ≤ 1099511627776)
    (fun i => [(1, .pointer (some ⟨b1, 0, none⟩)), (129, a.scores.sl x.scores.length), (130, .int .i64 x.scores.length), (131, .int .i64 i)]) (fun _ => [.blk b1 (stateS x a) 49]) (fun i => x.scores.length - i) 0
    ⟨Nat.zero_le _, by omega⟩ ⟨rfl, rfl, rfl, rfl, trivial⟩ (by repeat (first | exact Sel.nil | refine Sel.cons (by repeat (first | exact .head | apply Pick.tail | apply Put.tail)) ?_)) ?_
  intro i hi
  obtain ⟨hi, hv⟩ := hi
  (repeat (first | (refine WC_seq ?_) | (refine WC_region ?_) | (refine WL_nil ?_) | (refine QX_then ?_) | (refine WL_val rfl rfl rfl (by exact val_lss rfl rfl) ?_)))
  refine WC_cond rfl (fun ht => ?_) (fun ht => ?_)
  · have hlt : i < x.scores.length := by have := of_decide_eq_true ht; omega
    clear ht
    obtain ⟨b, oo, hp, hr⟩ := SlV.posOld hL.scores.1 hL.scores.2 (by omega) (by decide)
    (repeat (first | (refine WC_seq ?_) | (refine WC_block ?_) | (refine WC_region ?_) | (refine WC_skip ?_) | (refine QX_then ?_)))
    refine WL_val rfl rfl rfl (val_indexAddrP1 hp rfl rfl hlt) ?_
    refine WL_val rfl rfl rfl (val_load_at (v := u64 x.scores[i]) rfl (hr _) (by simp [hlt])) ?_
    (repeat (first | (refine WC_seq ?_) | (refine WC_region ?_) | (refine WL_nil ?_) | (refine QX_then ?_) | (refine WL_val rfl rfl rfl (by first | exact val_move rfl | exact val_assign rfl | exact val_gtr rfl rfl) ?_)))
    refine WC_cond rfl (fun ht => ?_) (fun ht => ?_)
    · have h1 := of_decide_eq_true ht
      (repeat (first | (refine WC_seq ?_) | (refine WC_region ?_) | (refine WC_ret ?_) | (refine WL_nil ?_) | (refine QX_then ?_) | (refine QX_then_ret ?_) | (refine QX_block_ret ?_) | (refine WL_val rfl rfl rfl (by exact val_assign rfl) ?_)))
      refine QX_ret (l := [.tmp 2]) rfl (.tmp rfl .nil) ?_
      intro w' hw'
      exact gives false hw' (by simp; intro h; have := h.scores _ (List.getElem_mem hlt); omega) rfl (by repeat (first | exact Sel.nil | refine Sel.cons (by repeat (first | exact .head | apply Pick.tail | apply Put.tail)) ?_))
    have h1 := of_decide_eq_false ht
    (repeat (first | (refine WC_region ?_) | (refine WC_skip ?_) | (refine WL_nil ?_) | (refine QX_then ?_) | (refine QX_block ?_) | (refine WL_val rfl rfl rfl (by first | exact val_move rfl | (apply val_addI; exact rfl; exact rfl; omega; omega)) ?_)))
    refine QX_againS (i + 1) ⟨by omega, fun k hk hki => ?_⟩ (by omega) ⟨rfl, rfl, rfl, rfl, trivial⟩ (by repeat (first | exact Sel.nil | refine Sel.cons (by repeat (first | exact .head | apply Pick.tail | apply Put.tail)) ?_))
    rcases Nat.lt_or_ge k i with h | h
    · exact hv k hk h
    · obtain rfl : k = i := by omega
      omega
  obtain rfl : i = x.scores.length := by have := of_decide_eq_false ht; omega
  clear ht
  have hs' : ∀ v ∈ x.scores, v.toNat ≤ 1099511627776 := fun v hm => by
    obtain ⟨k, hk, rfl⟩ := List.getElem_of_mem hm
    exact hv k hk hk
  (repeat (first | (refine WC_seq ?_) | (refine WC_region ?_) | (refine WC_exit ?_) | (refine QX_then ?_) | (refine QX_then_exit ?_) | (refine QX_block_exit ?_) | (refine WL_val rfl rfl rfl (by first | exact val_fieldAddr0 rfl | (apply val_load_blk; exact rfl; (repeat (first | exact .head | apply Pick.tail)); exact rfl)) ?_)))
  refine WL_call rfl rfl rfl .nil (fun w' hw' _ => stateFew w' _ x.balances (hL.balances.pass hw' Take.nil).1 (by omega)) (fun _ _ => ?_)
  (repeat (refine WL_val rfl rfl rfl (by first | exact val_move rfl | exact val_fieldAddr0 rfl) ?_))
  refine WL_bool 141 rfl (fun ht => ?_) (fun ht => ?_)
  · have h1 := of_decide_eq_true ht
    clear ht
    (repeat (refine WL_val rfl rfl rfl (by first | exact val_fieldAddr0 rfl | exact val_slice_arr rfl) ?_))
    refine WL_call rfl rfl rfl .nil (fun w' hw' _ => stateFew w' _ x.slashings.toList ?_ (by simp)) (fun _ _ => ?_)
    · have := SlRd.blk (S := []) (w0 := w) (b := b1) (o := 979) (c := 8) (sz := 1) (k := 8) (m := 8) (vs := x.slashings.toList.map u64) (Γ := [.blk b1 (stateS x a) 49]) .head (by exact rfl) rfl (Nat.le_refl _) (by simp)
      simpa using this.at hw'
    refine WL_bool 144 rfl (fun ht => ?_) (fun ht => ?_)
    · have h2 := of_decide_eq_true ht
      (repeat (first | (refine WC_ret ?_) | (refine WL_nil ?_) | (refine QX_then ?_) | (refine WL_val rfl rfl rfl (by first | exact val_assign rfl | exact val_pick_true rfl rfl) ?_)))
      refine QX_ret (l := [.tmp 2]) rfl (.tmp rfl .nil) ?_
      intro w' hw'
      exact gives true hw' (by simp; exact ⟨by omega, by omega, by omega, by omega, by omega, by omega, by omega, by omega, by omega, by omega, k1, k2, k3, hv', hs', h1, h2⟩) rfl (by repeat (first | exact Sel.nil | refine Sel.cons (by repeat (first | exact .head | apply Pick.tail | apply Put.tail)) ?_))
    · have h2 := of_decide_eq_false ht
      (repeat (first | (refine WC_ret ?_) | (refine WL_nil ?_) | (refine QX_then ?_) | (refine WL_val rfl rfl rfl (by first | exact val_assign rfl | exact val_pick_true rfl rfl) ?_)))
      refine QX_ret (l := [.tmp 2]) rfl (.tmp rfl .nil) ?_
      intro w' hw'
      exact gives false hw' (by simp; intro h; exact h2 h.slash) rfl (by repeat (first | exact Sel.nil | refine Sel.cons (by repeat (first | exact .head | apply Pick.tail | apply Put.tail)) ?_))
  · have h1 := of_decide_eq_false ht
    (repeat (first | (refine WC_ret ?_) | (refine WL_nil ?_) | (refine QX_then ?_) | (refine WL_off rfl rfl rfl ?_) | (refine WL_val rfl rfl rfl (by first | exact val_assign rfl | exact val_pick_false rfl rfl) ?_)))
    refine QX_ret (l := [.tmp 2]) rfl (.tmp rfl .nil) ?_
    intro w' hw'
    exact gives false hw' (by simp; intro h; exact h1 h.bal) rfl (by repeat (first | exact Sel.nil | refine Sel.cons (by repeat (first | exact .head | apply Pick.tail | apply Put.tail)) ?_))
end Go.PK

/- The fixed answers (awake of layer 10's laws). -/
namespace Go.PK
open Go.Proofs

def Vector.zeros (n : Nat) : Vector UInt8 n := Vector.replicate n 0
abbrev zRoot : Root := Vector.zeros 32
abbrev zCk : Checkpoint := ⟨0, zRoot⟩
abbrev zComm : Committee := ⟨Vector.replicate 8 (Vector.zeros 48), Vector.zeros 48⟩
/-- the zero state -/
def StateD.zero : StateD where
  genesis := 0
  groot := zRoot
  slot := 0
  fork := ⟨Vector.zeros 4, Vector.zeros 4, 0⟩
  header := ⟨0, 0, zRoot, zRoot, zRoot⟩
  blockRoots := Vector.replicate 8 zRoot
  stateRoots := Vector.replicate 8 zRoot
  history := []
  eth1 := ⟨zRoot, 0, zRoot⟩
  votes := []
  deposits := 0
  validators := []
  balances := []
  mixes := Vector.replicate 8 zRoot
  slashings := Vector.replicate 8 0
  previous := []
  current := []
  bits := Vector.replicate 4 false
  oldJust := zCk
  just := zCk
  final := zCk
  scores := []
  sync := zComm
  nextSync := zComm
def PC.none : PC := ⟨Option.none, 0⟩
def Addrs.none : Addrs := ⟨.none, .none, .none, .none, .none, .none, .none⟩

theorem bv_zeros (n : Nat) : bv (Vector.zeros n) = List.replicate n (.int .u8 0) := by simp [bv, Vector.zeros, bs]
theorem rootsV_zeros (n k : Nat) : rootsV (Vector.replicate k (Vector.zeros n)) = List.replicate (k * n) (.int .u8 0) := by
  have key : ∀ k : Nat, (List.replicate k (Vector.zeros n)).flatMap bv = List.replicate (k * n) (.int .u8 0) := by
    intro k
    induction k with
    | zero => simp
    | succ k ih => rw [List.replicate_succ, List.flatMap_cons, ih, bv_zeros, List.replicate_append_replicate]; congr 1; rw [Nat.add_mul]; omega
  simpa [rootsV] using key k

theorem ListsAt.nil {w : World} {S : List Nat} {x : StateD} (h1 : x.history = []) (h2 : x.votes = []) (h3 : x.validators = []) (h4 : x.balances = []) (h5 : x.previous = []) (h6 : x.current = []) (h7 : x.scores = []) : ListsAt w S x Addrs.none := by
  refine ⟨?_, ?_, ?_, ?_, ?_, ?_, ?_⟩ <;> simp only [h1, h2, h3, h4, h5, h6, h7] <;> exact ⟨.nil, .inl rfl⟩

theorem stAll_err (x : StateD) (h : x.Fits) : (stAll x).err = 0 := by rw [stAll_toks x h, run_err]; rfl

/-- the zero state but for its slot -/
def StateD.atSlot (n : UInt64) : StateD := { StateD.zero with slot := n }
theorem zero_right : StateD.zero.Right := by
  refine ⟨?_, ?_, ?_, ?_, ?_, ?_, ?_, ?_, ?_, ?_, ?_, ?_, ?_, ?_, ?_, ?_, ?_⟩ <;> first | decide | (intro v hv; cases hv) | (simp [StateD.zero, sumU])
theorem at_fits (n : UInt64) : (StateD.atSlot n).Fits := ⟨by simp [StateD.atSlot, StateD.zero], by simp [StateD.atSlot, StateD.zero], by simp [StateD.atSlot, StateD.zero], by simp [StateD.atSlot, StateD.zero], by simp [StateD.atSlot, StateD.zero], by simp [StateD.atSlot, StateD.zero], by simp [StateD.atSlot, StateD.zero]⟩
theorem at_small (n : UInt64) : (StateD.atSlot n).Small := ⟨by simp [StateD.atSlot, StateD.zero], by simp [StateD.atSlot, StateD.zero], by simp [StateD.atSlot, StateD.zero], by simp [StateD.atSlot, StateD.zero], by simp [StateD.atSlot, StateD.zero], by simp [StateD.atSlot, StateD.zero], by simp [StateD.atSlot, StateD.zero]⟩
theorem at_len (n : UInt64) : (encState (StateD.atSlot n)).length = 2101 := by rw [encState_length _ (at_fits n)]; simp [stEnd, StateD.atSlot, StateD.zero]

/-- the zero state's cells, but for its slot and balances -/
abbrev zeroS (n : UInt64) (bal : Value) : List Seg :=
  [(1, [.int .u64 0]), (32, List.replicate 32 (.int .u8 0)), (1, [u64 n]), (4, List.replicate 4 (.int .u8 0)), (4, List.replicate 4 (.int .u8 0)), (1, [.int .u64 0]), (1, [.int .u64 0]), (1, [.int .u64 0]), (32, List.replicate 32 (.int .u8 0)), (32, List.replicate 32 (.int .u8 0)), (32, List.replicate 32 (.int .u8 0)),
   (256, List.replicate 256 (.int .u8 0)), (256, List.replicate 256 (.int .u8 0)), (1, [.slice none 0 0]), (32, List.replicate 32 (.int .u8 0)), (1, [.int .u64 0]), (32, List.replicate 32 (.int .u8 0)), (1, [.slice none 0 0]), (1, [.int .u64 0]), (1, [.slice none 0 0]), (1, [bal]), (256, List.replicate 256 (.int .u8 0)), (8, List.replicate 8 (.int .u64 0)),
   (1, [.slice none 0 0]), (1, [.slice none 0 0]), (4, List.replicate 4 (.bool false)), (1, [.int .u64 0]), (32, List.replicate 32 (.int .u8 0)), (1, [.int .u64 0]), (32, List.replicate 32 (.int .u8 0)), (1, [.int .u64 0]), (32, List.replicate 32 (.int .u8 0)), (1, [.slice none 0 0]), (384, List.replicate 384 (.int .u8 0)), (48, List.replicate 48 (.int .u8 0)), (384, List.replicate 384 (.int .u8 0)), (48, List.replicate 48 (.int .u8 0))]
theorem zeroS_eq (n : UInt64) : zeroS n (.slice none 0 0) = stateS (StateD.atSlot n) Addrs.none := by
  simp only [stateS, StateD.atSlot, StateD.zero, bv_zeros, rootsV_zeros, Addrs.none, PC.none, PC.sl, List.length_nil]
  rfl
theorem zeroS_bal (l : List UInt64) (p : PC) : zeroS 0 (p.sl l.length) = stateS { StateD.zero with balances := l } { Addrs.none with balances := p } := by
  simp only [stateS, StateD.zero, bv_zeros, rootsV_zeros, Addrs.none, PC.none, PC.sl, List.length_nil]
  rfl

set_option maxHeartbeats 4000000 in
theorem law10Awake (w : World) : Calls Try.prog 7 ([] : List Value).toArray w (Gives (fun _ : Unit => True) (fun _ => .bool true) (fun _ => []) [] w) := by
  refine calls_enter (fn := Try.f7) Try.func7 rfl Try.ntmps7 rfl (mem0 w) ?_
  (repeat (first | (refine WC_seq ?_) | (refine WC_region ?_) | (refine WL_val rfl rfl rfl (by exact val_assign rfl) ?_)))
  refine WL_val rfl rfl rfl (val_buildS (vs := [(2, .int .u64 3)]) (q' := zeroS 3 (.slice none 0 0)) rfl (.cons (new := [(1, [.int .u64 3])]) rfl rfl inferInstance (by repeat (first | exact PutSeg.one | apply PutSeg.skip | apply PutSeg.next | exact PutSeg.inner rfl)) .nil)) ?_
  rw [zeroS_eq 3]
  refine WL_call rfl rfl rfl .nil (fun w' _ _ => encStateW w' (.atSlot 3) .none (.nil rfl rfl rfl rfl rfl rfl rfl) (at_small 3)) (fun g _ => ?_)
  obtain ⟨gp, gc⟩ := g
  dsimp only
  have hlen := at_len 3
  rw [stAll_err _ (at_fits 3)]
  refine WL_slPos (p := gp) .head (by omega) (fun gb hgb => ?_)
  subst hgb
  (repeat (first | (refine WC_seq ?_) | (refine WC_region ?_) | (refine WL_val rfl rfl rfl (by first | exact val_move rfl | exact val_assign rfl | exact val_extract rfl rfl) ?_)))
  refine WL_call rfl rfl rfl .nil (fun w' hw' _ => readStateW w' gb 0 gc (.atSlot 3) (at_fits 3) ⟨SlRd.sl .head w' hw', Sep.sl hw' .nil .head⟩) (fun a _ => ?_)
  generalize (encState (StateD.atSlot 3)).length = L at hlen
  (repeat (refine WL_val rfl rfl rfl (by first | exact val_move rfl | exact val_extract rfl rfl) ?_))
  (first | (refine WL_alloc rfl rfl (fun b3 => ?_)) | (refine WL_box_agg rfl rfl rfl inferInstance (fun b3 => ?_)) | (refine WL_box rfl rfl rfl rfl (fun b3 => ?_)))
  refine WL_store_agg (q := stateS (.atSlot 3) a) (segs' := stateS (.atSlot 3) a) rfl rfl rfl .head (by repeat (first | exact PutSeg.one | apply PutSeg.skip | apply PutSeg.next | exact PutSeg.inner rfl)) ?_
  (repeat (first | (refine WC_seq ?_) | (refine WC_region ?_) | (refine WL_val rfl rfl rfl (by first | exact val_move rfl | exact val_assign rfl | exact val_fieldAddr0 rfl | (apply val_load_blk; exact rfl; (repeat (first | exact .head | apply Pick.tail)); exact rfl) | exact val_len rfl | exact val_pick_true rfl rfl | exact val_gtr rfl rfl | exact val_eql rfl rfl) ?_)))
  refine WL_bool 31 rfl (fun _ => ?_) (fun hf => absurd (of_decide_eq_false hf) (by omega))
  skip
  refine WL_val rfl rfl rfl (val_buildS (vs := []) (q' := zeroS 0 (.slice none 0 0)) rfl .nil) ?_
  rw [show zeroS 0 (.slice none 0 0) = stateS StateD.zero Addrs.none from zeroS_eq 0]
  refine WL_call rfl rfl rfl .nil (fun w' _ _ => stateRight w' .zero .none (.nil rfl rfl rfl rfl rfl rfl rfl) (by decide)) (fun r hr => ?_)
  obtain rfl : r = true := hr.2 zero_right
  (repeat (refine WL_val rfl rfl rfl (by first | exact val_move rfl | exact val_pick_true rfl rfl) ?_))
  refine WL_build1 rfl rfl rfl rfl rfl rfl rfl rfl rfl rfl (fun b9 => ?_)
  refine WL_val rfl rfl rfl (val_buildS (vs := [(12, .slice (some ⟨b9, 0, none⟩) 1 1)]) (q' := zeroS 0 (.slice (some ⟨b9, 0, none⟩) 1 1)) rfl (.cons (new := [(1, [.slice (some ⟨b9, 0, none⟩) 1 1])]) rfl rfl inferInstance (by repeat (first | exact PutSeg.one | apply PutSeg.skip | apply PutSeg.next | exact PutSeg.inner rfl)) .nil)) ?_
  rw [show zeroS 0 (.slice (some ⟨b9, 0, none⟩) 1 1) = stateS { StateD.zero with balances := [1] } { Addrs.none with balances := ⟨some ⟨b9, 0, none⟩, 1⟩ } from zeroS_bal [1] ⟨some ⟨b9, 0, none⟩, 1⟩]
  refine WL_call rfl rfl rfl .nil (fun w' hw' _ => stateRight w' { StateD.zero with balances := [1] } { Addrs.none with balances := ⟨some ⟨b9, 0, none⟩, 1⟩ } ?_ (by decide)) (fun r hr => ?_)
  · have h0 : ListsAt w' [] StateD.zero Addrs.none := .nil rfl rfl rfl rfl rfl rfl rfl
    obtain ⟨l1, l2, l3, l4, l5, l6, l7⟩ := h0
    exact ⟨l1, l2, l3, ⟨(SlRd.blk (b := b9) (o := 0) (c := 1) (k := 1) (m := 1) (sz := 1) .head (by exact rfl) rfl (Nat.le_refl _) rfl).at hw', Sep.none⟩, l5, l6, l7⟩
  obtain rfl : r = false := by
    cases r
    · rfl
    · have := (hr.1 rfl).nb
      simp [StateD.zero] at this
  (repeat (first | (refine WC_ret ?_) | (refine WL_val rfl rfl rfl (by first | exact val_assign rfl | exact val_pick_true rfl rfl | exact val_not rfl) ?_)))
  refine QX_ret (l := [.tmp 0]) rfl (.tmp rfl .nil) ?_
  intro w' hw'
  exact gives () hw' trivial rfl .nil
end Go.PK

/- Copy: a state in new memory. -/
namespace Go.PK
open Go.Proofs

theorem one_flatMap {α : Type} {f : α → List Value} (h : ∀ x, ∀ v ∈ f x, v.oneCell' = true) (l : List α) : ∀ v ∈ l.flatMap f, v.oneCell' = true := fun v hv => by
  obtain ⟨x, _, hx⟩ := List.mem_flatMap.1 hv
  exact h x v hx
theorem one_u64s (l : List UInt64) : ∀ v ∈ l.map u64, v.oneCell' = true := fun v hv => by
  obtain ⟨x, _, rfl⟩ := List.mem_map.1 hv; rfl

section rules
variable {P : Program} {Q : Exit → Act → World → Prop} {n : Nat} {e : Env} {Γ Γ' : List Chunk} {S : List Nat} {w0 : World} {ops : Array Oper} {rest : List Oper}
  {d : Nat} {ty : TypeId} {pos : String} {after : Array Edge} {g : Option (Nat × Bool)}
/-- `append(s, x...)`: s is the call's own and empty. -/
theorem WL_append0 {t el : TypeId} {x y : Operand} {sz by_ : Nat} {v v' : Value} {m' : Nat} {news : List Value} [Und P t (.slice el)] [Sz P el sz] [Bts P el by_] {q : List Seg} [Zer P el q]
    (hw : wantedE ops e g = some true) (hd : Nat.blt d n = true) (hx : ev e x = some v) (hy : ev e y = some v') (hqw : Nat.beq (width q) sz = true) (hpos : Nat.blt 0 sz = true)
    (hp : Pick (.sl v 0 [] el sz) Γ Γ') (hs : SlRd Γ S w0 sz v' m' news) (h1 : ∀ u ∈ news, u.oneCell' = true) (hbytes : m' * by_ ≤ 140737488355328) (h63 : m' ≤ 140737488355328)
    (h : ∀ p c, WL P ops Q rest n ((d, .slice p m' c) :: e) (.sl (.slice p m' c) m' news el sz :: Γ') S w0) :
    WL P ops Q (⟨some d, .call ⟨.builtin .append, #[x, y], #[t, t]⟩, ty, pos, after, g⟩ :: rest) n e Γ S w0 :=
  WL_append hw hd hx hy hqw hpos hp hs h1 (by rwa [Nat.zero_add]) (by rwa [Nat.zero_add]) (fun p c => by rw [Nat.zero_add, List.nil_append]; exact h p c)
end rules

set_option maxHeartbeats 4000000 in
theorem refCopy (w : World) (x : StateD) (a : Addrs) (hL : ListsAt w [] x a) (hz : x.Small) :
    Calls Try.prog 8 [aggS (stateS x a)].toArray w (Gives (fun _ : Addrs => True) (fun a' => aggS (stateS x a')) (fun a' => listsΔ x a') [] w) := by
  obtain ⟨z1, z2, z3, z4, z5, z6, z7⟩ := hz
  refine calls_enter (fn := Try.f8) Try.func8 rfl Try.ntmps8 rfl (mem0 w) ?_
  (repeat (first | (refine WC_seq ?_) | (refine WC_region ?_)))
  (first | (refine WL_alloc rfl rfl (fun b1 => ?_)) | (refine WL_box_agg rfl rfl rfl inferInstance (fun b1 => ?_)) | (refine WL_box rfl rfl rfl rfl (fun b1 => ?_)))
  skip
  (first | (refine WL_alloc rfl rfl (fun b2 => ?_)) | (refine WL_box_agg rfl rfl rfl inferInstance (fun b2 => ?_)) | (refine WL_box rfl rfl rfl rfl (fun b2 => ?_)))
  (repeat (first | (refine WC_seq ?_) | (refine WC_region ?_)))
  refine WL_build0 rfl rfl (fun b9 => ?_)
  (repeat (refine WL_val rfl rfl rfl (by first | exact val_fieldAddr0 rfl | (apply val_load_blk; exact rfl; (repeat (first | exact .head | apply Pick.tail)); exact rfl)) ?_))
  refine WL_append0 rfl rfl rfl rfl rfl rfl (by repeat (first | exact .head | apply Pick.tail | apply Put.tail)) (hL.history).rd (one_flatMap bv_one _) (by omega) (by omega) (fun phistory chistory => ?_)
  (repeat (refine WL_val rfl rfl rfl (by exact val_fieldAddr0 rfl) ?_))
  (first | (refine WL_store rfl rfl rfl rfl (by repeat (first | exact .head | apply Pick.tail | apply Put.tail)) (by repeat (first | exact PutSeg.one | apply PutSeg.skip | apply PutSeg.next | exact PutSeg.inner rfl)) ?_) | (refine WL_store_agg rfl rfl rfl (by repeat (first | exact .head | apply Pick.tail | apply Put.tail)) (by repeat (first | exact PutSeg.one | apply PutSeg.skip | apply PutSeg.next | exact PutSeg.inner rfl)) ?_))
  (repeat (first | (refine WC_seq ?_) | (refine WC_region ?_)))
  refine WL_build0 rfl rfl (fun b9 => ?_)
  (repeat (refine WL_val rfl rfl rfl (by first | exact val_fieldAddr0 rfl | (apply val_load_blk; exact rfl; (repeat (first | exact .head | apply Pick.tail)); exact rfl)) ?_))
  refine WL_append0 rfl rfl rfl rfl rfl rfl (by repeat (first | exact .head | apply Pick.tail | apply Put.tail)) (hL.votes).rd (one_flatMap eth1C_one _) (by omega) (by omega) (fun pvotes cvotes => ?_)
  (repeat (refine WL_val rfl rfl rfl (by exact val_fieldAddr0 rfl) ?_))
  (first | (refine WL_store rfl rfl rfl rfl (by repeat (first | exact .head | apply Pick.tail | apply Put.tail)) (by repeat (first | exact PutSeg.one | apply PutSeg.skip | apply PutSeg.next | exact PutSeg.inner rfl)) ?_) | (refine WL_store_agg rfl rfl rfl (by repeat (first | exact .head | apply Pick.tail | apply Put.tail)) (by repeat (first | exact PutSeg.one | apply PutSeg.skip | apply PutSeg.next | exact PutSeg.inner rfl)) ?_))
  (repeat (first | (refine WC_seq ?_) | (refine WC_region ?_)))
  refine WL_build0 rfl rfl (fun b9 => ?_)
  (repeat (refine WL_val rfl rfl rfl (by first | exact val_fieldAddr0 rfl | (apply val_load_blk; exact rfl; (repeat (first | exact .head | apply Pick.tail)); exact rfl)) ?_))
  refine WL_append0 rfl rfl rfl rfl rfl rfl (by repeat (first | exact .head | apply Pick.tail | apply Put.tail)) (hL.validators).rd (one_flatMap valC_one _) (by omega) (by omega) (fun pvalidators cvalidators => ?_)
  (repeat (refine WL_val rfl rfl rfl (by exact val_fieldAddr0 rfl) ?_))
  (first | (refine WL_store rfl rfl rfl rfl (by repeat (first | exact .head | apply Pick.tail | apply Put.tail)) (by repeat (first | exact PutSeg.one | apply PutSeg.skip | apply PutSeg.next | exact PutSeg.inner rfl)) ?_) | (refine WL_store_agg rfl rfl rfl (by repeat (first | exact .head | apply Pick.tail | apply Put.tail)) (by repeat (first | exact PutSeg.one | apply PutSeg.skip | apply PutSeg.next | exact PutSeg.inner rfl)) ?_))
  (repeat (first | (refine WC_seq ?_) | (refine WC_region ?_)))
  refine WL_build0 rfl rfl (fun b9 => ?_)
  (repeat (refine WL_val rfl rfl rfl (by first | exact val_fieldAddr0 rfl | (apply val_load_blk; exact rfl; (repeat (first | exact .head | apply Pick.tail)); exact rfl)) ?_))
  refine WL_append0 rfl rfl rfl rfl rfl rfl (by repeat (first | exact .head | apply Pick.tail | apply Put.tail)) (hL.balances).rd (one_u64s _) (by omega) (by omega) (fun pbalances cbalances => ?_)
  (repeat (refine WL_val rfl rfl rfl (by exact val_fieldAddr0 rfl) ?_))
  (first | (refine WL_store rfl rfl rfl rfl (by repeat (first | exact .head | apply Pick.tail | apply Put.tail)) (by repeat (first | exact PutSeg.one | apply PutSeg.skip | apply PutSeg.next | exact PutSeg.inner rfl)) ?_) | (refine WL_store_agg rfl rfl rfl (by repeat (first | exact .head | apply Pick.tail | apply Put.tail)) (by repeat (first | exact PutSeg.one | apply PutSeg.skip | apply PutSeg.next | exact PutSeg.inner rfl)) ?_))
  (repeat (first | (refine WC_seq ?_) | (refine WC_region ?_)))
  refine WL_build0 rfl rfl (fun b9 => ?_)
  (repeat (refine WL_val rfl rfl rfl (by first | exact val_fieldAddr0 rfl | (apply val_load_blk; exact rfl; (repeat (first | exact .head | apply Pick.tail)); exact rfl)) ?_))
  refine WL_append0 rfl rfl rfl rfl rfl rfl (by repeat (first | exact .head | apply Pick.tail | apply Put.tail)) (hL.previous).rd (bs_one _) (by omega) (by omega) (fun pprevious cprevious => ?_)
  (repeat (refine WL_val rfl rfl rfl (by exact val_fieldAddr0 rfl) ?_))
  (first | (refine WL_store rfl rfl rfl rfl (by repeat (first | exact .head | apply Pick.tail | apply Put.tail)) (by repeat (first | exact PutSeg.one | apply PutSeg.skip | apply PutSeg.next | exact PutSeg.inner rfl)) ?_) | (refine WL_store_agg rfl rfl rfl (by repeat (first | exact .head | apply Pick.tail | apply Put.tail)) (by repeat (first | exact PutSeg.one | apply PutSeg.skip | apply PutSeg.next | exact PutSeg.inner rfl)) ?_))
  (repeat (first | (refine WC_seq ?_) | (refine WC_region ?_)))
  refine WL_build0 rfl rfl (fun b9 => ?_)
  (repeat (refine WL_val rfl rfl rfl (by first | exact val_fieldAddr0 rfl | (apply val_load_blk; exact rfl; (repeat (first | exact .head | apply Pick.tail)); exact rfl)) ?_))
  refine WL_append0 rfl rfl rfl rfl rfl rfl (by repeat (first | exact .head | apply Pick.tail | apply Put.tail)) (hL.current).rd (bs_one _) (by omega) (by omega) (fun pcurrent ccurrent => ?_)
  (repeat (refine WL_val rfl rfl rfl (by exact val_fieldAddr0 rfl) ?_))
  (first | (refine WL_store rfl rfl rfl rfl (by repeat (first | exact .head | apply Pick.tail | apply Put.tail)) (by repeat (first | exact PutSeg.one | apply PutSeg.skip | apply PutSeg.next | exact PutSeg.inner rfl)) ?_) | (refine WL_store_agg rfl rfl rfl (by repeat (first | exact .head | apply Pick.tail | apply Put.tail)) (by repeat (first | exact PutSeg.one | apply PutSeg.skip | apply PutSeg.next | exact PutSeg.inner rfl)) ?_))
  (repeat (first | (refine WC_seq ?_) | (refine WC_region ?_)))
  refine WL_build0 rfl rfl (fun b9 => ?_)
  (repeat (refine WL_val rfl rfl rfl (by first | exact val_fieldAddr0 rfl | (apply val_load_blk; exact rfl; (repeat (first | exact .head | apply Pick.tail)); exact rfl)) ?_))
  refine WL_append0 rfl rfl rfl rfl rfl rfl (by repeat (first | exact .head | apply Pick.tail | apply Put.tail)) (hL.scores).rd (one_u64s _) (by omega) (by omega) (fun pscores cscores => ?_)
  (repeat (refine WL_val rfl rfl rfl (by exact val_fieldAddr0 rfl) ?_))
  (first | (refine WL_store rfl rfl rfl rfl (by repeat (first | exact .head | apply Pick.tail | apply Put.tail)) (by repeat (first | exact PutSeg.one | apply PutSeg.skip | apply PutSeg.next | exact PutSeg.inner rfl)) ?_) | (refine WL_store_agg rfl rfl rfl (by repeat (first | exact .head | apply Pick.tail | apply Put.tail)) (by repeat (first | exact PutSeg.one | apply PutSeg.skip | apply PutSeg.next | exact PutSeg.inner rfl)) ?_))
  (repeat (first | (refine WC_seq ?_) | (refine WC_region ?_) | (refine WL_val rfl rfl rfl (by apply val_load_blk_agg; exact rfl; (repeat (first | exact .head | apply Pick.tail)); exact rfl) ?_)))
  refine WL_as 38 (aggS (stateS x ⟨⟨phistory, chistory⟩, ⟨pvotes, cvotes⟩, ⟨pvalidators, cvalidators⟩, ⟨pbalances, cbalances⟩, ⟨pprevious, cprevious⟩, ⟨pcurrent, ccurrent⟩, ⟨pscores, cscores⟩⟩)) rfl rfl ?_
  refine WL_store_agg (q := stateS x ⟨⟨phistory, chistory⟩, ⟨pvotes, cvotes⟩, ⟨pvalidators, cvalidators⟩, ⟨pbalances, cbalances⟩, ⟨pprevious, cprevious⟩, ⟨pcurrent, ccurrent⟩, ⟨pscores, cscores⟩⟩) (segs' := stateS x ⟨⟨phistory, chistory⟩, ⟨pvotes, cvotes⟩, ⟨pvalidators, cvalidators⟩, ⟨pbalances, cbalances⟩, ⟨pprevious, cprevious⟩, ⟨pcurrent, ccurrent⟩, ⟨pscores, cscores⟩⟩) rfl rfl rfl (bt := 49) (b := b2) (by repeat (first | exact .head | apply Pick.tail | apply Put.tail)) (by repeat (first | exact PutSeg.one | apply PutSeg.skip | apply PutSeg.next | exact PutSeg.inner rfl)) ?_
  (repeat (refine WC_ret ?_))
  refine QX_ret (l := [.cell 2 49]) rfl (.cell rfl (load_blk_agg (by repeat (first | exact .head | apply Pick.tail | apply Put.tail)) (by exact rfl)) .nil) ?_
  intro w' hw'
  exact gives ⟨⟨phistory, chistory⟩, ⟨pvotes, cvotes⟩, ⟨pvalidators, cvalidators⟩, ⟨pbalances, cbalances⟩, ⟨pprevious, cprevious⟩, ⟨pcurrent, ccurrent⟩, ⟨pscores, cscores⟩⟩ hw' trivial rfl (by repeat (first | exact Sel.nil | refine Sel.cons (by repeat (first | exact .head | apply Pick.tail | apply Put.tail)) ?_))
end Go.PK

/- The calculus: small helps in drawn regions; cells at reckoned places. -/
namespace Go.PK
attribute [local semireducible] Val Rd

section rules
variable {P : Program} {Q : Exit → Act → World → Prop} {n : Nat} {e : Env} {Γ Γ' Γc : List Chunk} {S : List Nat} {w0 : World} {ops : Array Oper} {rest : List Oper} {ks : List Kd}
variable {ty : TypeId} {d : Option Nat} {pos : String} {after : Array Edge} {g : Option (Nat × Bool)} {t el : TypeId} {x y ix : Operand}

/-- A slot's value in another spelling. -/
theorem WD_as (s : Nat) {v : Value} (v' : Value) (ht : lk e s = some v) (hv : v = v') (h : WD P ops Q Γc ks rest n ((s, v') :: e) Γ S w0) : WD P ops Q Γc ks rest n e Γ S w0 := fun a w st =>
  h a w ⟨st.fits.again (hv ▸ ht), st.mem⟩
theorem WC_as {c : Code} (s : Nat) {v : Value} (v' : Value) (ht : lk e s = some v) (hv : v = v') (h : WC P c Q n ((s, v') :: e) Γ S w0) : WC P c Q n e Γ S w0 := fun a w st =>
  h a w ⟨st.fits.again (hv ▸ ht), st.mem⟩

/-- a cell of a row in a block, at a reckoned place -/
theorem val_load_cell {b i o l : Nat} {segs : List Seg} {bt : TypeId} {vs : List Value} {v : Value} [IsPlain P t] (h : ev e x = some (.pointer (some ⟨b, i + o, none⟩))) (hp : Pick (.blk b segs bt) Γ Γ') (hq : spanAt segs o l = some [(l, vs)]) (hv : vs[i]? = some v) :
    Val P ⟨d, .load t x, ty, pos, after, g⟩ n e Γ S w0 v := by
  have := Rd.blk (S := S) (w0 := w0) l hp hq
  simp only [flat, List.append_nil] at this
  rw [Nat.add_comm] at h
  exact val_load_at h this hv
/-- a row of rows in a block, at a reckoned place -/
theorem val_load_rowCell {b i o l z : Nat} {segs : List Seg} {bt : TypeId} {vs us : List Value} [IsAgg P t] [Sz P t z] (h : ev e x = some (.pointer (some ⟨b, i * z + o, none⟩))) (hp : Pick (.blk b segs bt) Γ Γ') (hq : spanAt segs o l = some [(l, vs)]) (hv : (vs.drop (i * z)).take z = us) (hl : us.length = z) :
    Val P ⟨d, .load t x, ty, pos, after, g⟩ n e Γ S w0 (aggS [(z, us)]) := by
  have := Rd.blk (S := S) (w0 := w0) l hp hq
  simp only [flat, List.append_nil] at this
  rw [Nat.add_comm] at h
  exact val_load_row (q := [(z, us)]) h this (by simpa [flat] using hv) (by simpa [flat] using hl)
/-- A chunk in another spelling. -/
theorem WC_chunkAs {c : Code} {k k' : Chunk} (hp : Put k k' Γ Γ') (hk : k = k') (h : WC P c Q n e Γ' S w0) : WC P c Q n e Γ S w0 := by
  subst hk
  obtain ⟨A, B, rfl, rfl⟩ := hp.split
  exact h
theorem WL_chunkAs {k k' : Chunk} (hp : Put k k' Γ Γ') (hk : k = k') (h : WL P ops Q rest n e Γ' S w0) : WL P ops Q rest n e Γ S w0 := by
  subst hk
  obtain ⟨A, B, rfl, rfl⟩ := hp.split
  exact h
end rules

theorem sumU_mem {l : List UInt64} {v : UInt64} (h : v ∈ l) : v.toNat ≤ sumU l := by
  induction l with
  | nil => cases h
  | cons a l ih =>
    rw [sumU_cons]
    rcases List.mem_cons.1 h with rfl | h
    · omega
    · have := ih h; omega
end Go.PK

/- StateBounds: less in any balance, score and slashing leaves a state right. -/
namespace Go.PK
open Go.Proofs

theorem Old.own {Γ Γ' : List Chunk} {S : List Nat} {w0 w : World} {p : Option Addr} {m c sz : Nat} {xs : List Value} {el : TypeId} (hm : Mem Γ S w0 w) (hp : Pick (.sl (.slice p m c) m xs el sz) Γ Γ') : Old w [] sz (.slice p m c) m xs := ⟨SlRd.sl hp w hm, Sep.none⟩

/-- The lists of a state that lie in slices of one's own. -/
theorem ListsAt.own {Γ : List Chunk} {S : List Nat} {w0 w : World} {x : StateD} {a : Addrs} (hm : Mem Γ S w0 w) (hs : Sel (listsΔ x a) Γ) : ListsAt w [] x a := by
  have h := hm.sel hs
  exact ⟨Old.own h (by repeat (first | exact .head | apply Pick.tail | apply Put.tail)), Old.own h (by repeat (first | exact .head | apply Pick.tail | apply Put.tail)), Old.own h (by repeat (first | exact .head | apply Pick.tail | apply Put.tail)), Old.own h (by repeat (first | exact .head | apply Pick.tail | apply Put.tail)), Old.own h (by repeat (first | exact .head | apply Pick.tail | apply Put.tail)), Old.own h (by repeat (first | exact .head | apply Pick.tail | apply Put.tail)), Old.own h (by repeat (first | exact .head | apply Pick.tail | apply Put.tail))⟩

theorem sumU_set (l : List UInt64) (k : Nat) (v : UInt64) (h : k < l.length) (hv : v.toNat ≤ l[k].toNat) : sumU (l.set k v) ≤ sumU l := by
  induction l generalizing k with
  | nil => simp at h
  | cons a l ih =>
    cases k with
    | zero => simp [sumU_cons] at hv ⊢; omega
    | succ k => simp only [List.set_cons_succ, sumU_cons]; have := ih k (by simpa using h) (by simpa using hv); omega
theorem mem_set_le {l : List UInt64} {k : Nat} {v : UInt64} (h : k < l.length) (hv : v.toNat ≤ l[k].toNat) {b : Nat} (hl : ∀ s ∈ l, s.toNat ≤ b) : ∀ s ∈ l.set k v, s.toNat ≤ b := fun s hs => by
  rcases List.mem_or_eq_of_mem_set hs with h1 | rfl
  · exact hl s h1
  · exact Nat.le_trans hv (hl _ (List.getElem_mem h))

/-- what is left of a number -/
def lessen (v less : UInt64) : UInt64 := UInt64.ofNat (v.toNat - less.toNat % (v.toNat + 1))
theorem lessen_toNat (v less : UInt64) : (lessen v less).toNat = v.toNat - less.toNat % (v.toNat + 1) := by
  have := v.toNat_lt
  exact UInt64.toNat_ofNat_of_lt' (by show v.toNat - less.toNat % (v.toNat + 1) < 2 ^ 64; omega)
theorem lessen_le (v less : UInt64) : (lessen v less).toNat ≤ v.toNat := by rw [lessen_toNat]; omega

theorem lessen_set (l : List UInt64) (k : Nat) (less : UInt64) (h : k < l.length) : (l.set k (lessen (l.getD k 0) less)).map u64 = (l.map u64).set k (.int .u64 ((l[k].toNat - less.toNat % (l[k].toNat + 1) : Nat) : Int)) := by
  rw [List.map_set, u64, lessen_toNat, List.getD_eq_getElem?_getD, List.getElem?_eq_getElem h]; rfl
/-- The state with less in it. -/
def StateD.lessAt (x : StateD) (k j : Nat) (less : UInt64) : StateD :=
  { x with balances := x.balances.set k (lessen (x.balances.getD k 0) less), scores := x.scores.set k (lessen (x.scores.getD k 0) less),
           slashings := x.slashings.setIfInBounds j (lessen (x.slashings.toList.getD j 0) less), header := { x.header with slot := lessen x.header.slot less } }
theorem StateD.Right.less {x : StateD} (h : x.Right) (k j : Nat) (less : UInt64) (hj : j < 8) : (x.lessAt k j less).Right := by
  obtain ⟨h1, h2, h3, h4, h5, h6, h7, h8, h9, h10, h11, h12, h13, h14, h15, h16, h17⟩ := h
  refine ⟨h1, by simpa [lessAt] using h2, h3, h4, by simpa [lessAt] using h5, h6, h7, h8, h9, Nat.le_trans (lessen_le _ _) h10, h11, h12, h13, h14, ?_, ?_, ?_⟩
  · show ∀ s ∈ x.scores.set k _, _
    rcases Nat.lt_or_ge k x.scores.length with hk | hk
    · exact mem_set_le hk (by have := lessen_le (x.scores.getD k 0) less; simpa [hk] using this) h15
    · rw [List.set_eq_of_length_le hk]; exact h15
  · show sumU (x.balances.set k _) ≤ _
    rcases Nat.lt_or_ge k x.balances.length with hk | hk
    · exact Nat.le_trans (sumU_set _ _ _ hk (by have := lessen_le (x.balances.getD k 0) less; simpa [hk] using this)) h16
    · rw [List.set_eq_of_length_le hk]; exact h16
  · show sumU (x.slashings.setIfInBounds j _).toList ≤ _
    have : (x.slashings.setIfInBounds j (lessen (x.slashings.toList.getD j 0) less)).toList = x.slashings.toList.set j (lessen (x.slashings.toList.getD j 0) less) := by simp
    rw [this]
    have hk : j < x.slashings.toList.length := by simpa using hj
    exact Nat.le_trans (sumU_set _ _ _ hk (by have := lessen_le (x.slashings.toList.getD j 0) less; rw [List.getD_eq_getElem?_getD, List.getElem?_eq_getElem hk] at this ⊢; exact this)) h17

def StateD.slashAt (x : StateD) (j : Nat) (v : UInt64) : StateD := { x with slashings := x.slashings.setIfInBounds j v }
theorem slash_put (l : Vector UInt64 8) (j : Nat) (hj : j < 8) (v : UInt64) {n : Int} (hn : (v.toNat : Int) = n) : (u64sV l).take (j * 1) ++ [Value.int .u64 n] ++ (u64sV l).drop (j * 1 + 1) = u64sV (l.setIfInBounds j v) := by
  have h1 : (l.setIfInBounds j v).toList = l.toList.set j v := by simp
  rw [u64sV, u64sV, h1, List.map_set, List.set_eq_take_append_cons_drop, if_pos (by simpa using hj), ← hn]
  simp

set_option maxHeartbeats 4000000 in
theorem lawBounds (w : World) (x : StateD) (a : Addrs) (i : Int) (less : UInt64) (hL : ListsAt w [] x a) (hz : x.Small) (hi : -9223372036854775808 ≤ i ∧ i ≤ 9223372036854775807) :
    Calls Try.prog 4 [aggS (stateS x a), .int .i64 i, u64 less].toArray w (Gives (fun _ : Unit => True) (fun _ => .bool true) (fun _ => []) [] w) := by
  refine calls_enter (fn := Try.f4) Try.func4 rfl Try.ntmps4 rfl (mem0 w) ?_
  (repeat (first | (refine WC_seq ?_) | (refine WC_region ?_)))
  (first | (refine WL_alloc rfl rfl (fun b1 => ?_)) | (refine WL_box_agg rfl rfl rfl inferInstance (fun b1 => ?_)) | (refine WL_box rfl rfl rfl rfl (fun b1 => ?_)))
  (repeat (first | (refine WC_seq ?_) | (refine WC_region ?_) | (refine WL_val rfl rfl rfl (by exact val_assign rfl) ?_)))
  refine WL_call rfl rfl rfl .nil (fun w' _ _ => law10Awake w') (fun _ _ => ?_)
  (repeat (first | (refine WC_seq ?_) | (refine WC_region ?_) | (refine WC_skip ?_) | (refine WL_nil ?_) | (refine QX_then ?_) | (refine WC_cond_false rfl ?_) | (refine WL_val rfl rfl rfl (by first | (apply val_load_blk_agg; exact rfl; (repeat (first | exact .head | apply Pick.tail)); exact rfl) | exact val_not rfl) ?_)))
  refine WL_as 12 (aggS (stateS x a)) rfl rfl ?_
  refine WL_call rfl rfl rfl .nil (fun w' hw' _ => stateRight w' x a (hL.pass hw' .nil) ⟨hz.validators, hz.balances, hz.scores⟩) (fun r hr => ?_)
  cases r
  · (repeat (first | (refine WC_seq ?_) | (refine WC_region ?_) | (refine WC_ret ?_) | (refine WL_nil ?_) | (refine QX_then ?_) | (refine QX_then_ret ?_) | (refine WC_cond_true rfl ?_) | (refine WL_val rfl rfl rfl (by first | exact val_assign rfl | exact val_not rfl) ?_)))
    refine QX_ret (l := [.tmp 6]) rfl (.tmp rfl .nil) ?_
    intro w' hw'
    exact gives () hw' trivial rfl .nil
  have hx : x.Right := hr.1 rfl
  clear hr
  (repeat (first | (refine WC_seq ?_) | (refine WC_region ?_) | (refine WC_skip ?_) | (refine WL_nil ?_) | (refine QX_then ?_) | (refine WC_cond_false rfl ?_) | (refine WL_val rfl rfl rfl (by first | (apply val_load_blk_agg; exact rfl; (repeat (first | exact .head | apply Pick.tail)); exact rfl) | exact val_not rfl) ?_)))
  refine WL_as 15 (aggS (stateS x a)) rfl rfl ?_
  refine WL_call rfl rfl rfl .nil (fun w' hw' _ => refCopy w' x a (hL.pass hw' .nil) hz) (fun a' _ => ?_)
  skip
  (first | (refine WL_alloc rfl rfl (fun b7 => ?_)) | (refine WL_box_agg rfl rfl rfl inferInstance (fun b7 => ?_)) | (refine WL_box rfl rfl rfl rfl (fun b7 => ?_)))
  refine WL_store_agg (q := stateS x a') (segs' := stateS x a') rfl rfl rfl .head (by repeat (first | exact PutSeg.one | apply PutSeg.skip | apply PutSeg.next | exact PutSeg.inner rfl)) ?_
  (repeat (first | (refine WC_seq ?_) | (refine WC_region ?_) | (refine WL_nil ?_) | (refine QX_then ?_) | (refine WL_val rfl rfl rfl (by first | exact val_move rfl | exact val_assign rfl | exact val_fieldAddr0 rfl | (apply val_load_blk; exact rfl; (repeat (first | exact .head | apply Pick.tail)); exact rfl) | exact val_len rfl | exact val_gtr rfl rfl) ?_)))
  obtain ⟨ahist, avote, aval, ⟨bp, bc⟩, aprev, acur, ⟨sp, sc⟩⟩ := a'
  refine WC_cut (G := Nat) (fun _ => True) (fun _ => [(1, .int .i64 i), (2, u64 less), (7, .pointer (some ⟨b7, 0, none⟩))]) (fun k =>
    [.blk b7 (stateS x ⟨ahist, avote, aval, ⟨bp, bc⟩, aprev, acur, ⟨sp, sc⟩⟩) 49, .sl (ahist.sl x.history.length) x.history.length (x.history.flatMap bv) 24 32, .sl (avote.sl x.votes.length) x.votes.length (x.votes.flatMap eth1C) 34 65,
     .sl (aval.sl x.validators.length) x.validators.length (x.validators.flatMap valC) 62 86, .sl (.slice bp x.balances.length bc) x.balances.length ((x.balances.set k (lessen (x.balances.getD k 0) less)).map u64) 22 1,
     .sl (aprev.sl x.previous.length) x.previous.length (bs x.previous) 5 1, .sl (acur.sl x.current.length) x.current.length (bs x.current) 5 1, .sl (.slice sp x.scores.length sc) x.scores.length ((x.scores.set k (lessen (x.scores.getD k 0) less)).map u64) 22 1]) ?_ (fun k _ => ?_)
  · refine WC_cond rfl (fun ht => ?_) (fun ht => ?_)
    · have h0 : 0 < x.balances.length := by have := of_decide_eq_true ht; omega
      clear ht
      have hnb := hx.nb
      have hns := hx.ns
      have hnv := hx.nv
      (repeat (first | (refine WC_seq ?_) | (refine WC_region ?_) | (refine WL_val rfl rfl rfl (by exact val_move rfl) ?_)))
      refine WL_val rfl rfl rfl (val_rem rfl rfl (by omega)) ?_
      have m1 : i.tmod x.balances.length < x.balances.length := Int.tmod_lt_of_pos _ (by omega)
      have m2 : -(x.balances.length : Int) < i.tmod x.balances.length := Int.lt_tmod_of_pos _ (by omega)
      generalize i.tmod x.balances.length = m at m1 m2
      (repeat (refine WL_val rfl rfl rfl (by first | exact val_move rfl | (apply val_addI; exact rfl; exact rfl; omega; omega)) ?_))
      refine WL_val rfl rfl rfl (val_remI rfl rfl (by omega) (by omega)) ?_
      obtain ⟨k, hk, hkn⟩ : ∃ k : Nat, (m + x.balances.length) % x.balances.length = (k : Int) ∧ k < x.balances.length := by
        have r1 := Int.emod_nonneg (m + x.balances.length) (show (x.balances.length : Int) ≠ 0 from by omega)
        have r2 := Int.emod_lt_of_pos (m + x.balances.length) (show (0 : Int) < x.balances.length from by omega)
        exact ⟨((m + x.balances.length) % x.balances.length).toNat, by omega, by omega⟩
      refine WL_as 28 (.int .i64 (k : Int)) rfl (by rw [hk]) ?_
      have hbk : x.balances[k].toNat ≤ 144115188075855872 := Nat.le_trans (sumU_mem (List.getElem_mem hkn)) hx.bal
      have hsn : k < x.scores.length := by omega
      have hsk : x.scores[k].toNat ≤ 1099511627776 := hx.scores _ (List.getElem_mem hsn)
      (repeat (first | (refine WC_seq ?_) | (refine WL_val rfl rfl rfl (by exact val_assign rfl) ?_)))
      refine WC_slPos (p := bp) (by repeat (first | exact .head | apply Pick.tail | apply Put.tail)) h0 (fun bb hbb => ?_)
      subst hbb
      refine WC_slPos (p := sp) (by repeat (first | exact .head | apply Pick.tail | apply Put.tail)) (by omega) (fun sb hsb => ?_)
      subst hsb
      (refine WC_drawA [.blk b7 (stateS x ⟨ahist, avote, aval, ⟨some ⟨bb, 0, none⟩, bc⟩, aprev, acur, ⟨some ⟨sb, 0, none⟩, sc⟩⟩) 49, .sl (.slice (some ⟨bb, 0, none⟩) x.balances.length bc) x.balances.length (x.balances.map u64) 22 1] mixed (by kernel_rfl) (by repeat (first | exact Sel.nil | refine Sel.cons (by repeat (first | exact .head | apply Pick.tail | apply Put.tail)) ?_)) ?_)
      (repeat (first | (refine WD_p rfl rfl rfl (by first | exact val_move rfl | exact val_fieldAddr0 rfl) ?_) | (refine WD_q rfl rfl rfl (by apply val_load_blk; exact rfl; (repeat (first | exact .head | apply Pick.tail)); exact rfl) ?_)))
      refine WD_p rfl rfl rfl (val_indexAddr01 rfl rfl hkn) ?_
      refine WD_q rfl rfl rfl (val_load_sl (v := u64 x.balances[k]) rfl (by repeat (first | exact .head | apply Pick.tail | apply Put.tail)) (by simp [hkn])) ?_
      (repeat (first | (refine WD_p rfl rfl rfl (by first | exact val_move rfl | exact val_fieldAddr0 rfl) ?_) | (refine WD_q rfl rfl rfl (by apply val_load_blk; exact rfl; (repeat (first | exact .head | apply Pick.tail)); exact rfl) ?_)))
      refine WD_p rfl rfl rfl (val_indexAddr01 rfl rfl hkn) ?_
      refine WD_q rfl rfl rfl (val_load_sl (v := u64 x.balances[k]) rfl (by repeat (first | exact .head | apply Pick.tail | apply Put.tail)) (by simp [hkn])) ?_
      refine WD_p rfl rfl rfl (val_addUN (b := 1) rfl rfl (by omega)) ?_
      refine WD_p rfl rfl rfl (val_remUN rfl rfl (by omega)) ?_
      refine WD_p rfl rfl rfl (val_subU rfl rfl (Nat.le_of_lt_succ (Nat.mod_lt _ (by omega))) (by omega)) ?_
      refine WD_p rfl rfl rfl (val_indexAddr01 rfl rfl hkn) ?_
      (refine WD_t ?_)
      refine WL_store_sl (xs := x.balances.map u64) rfl rfl rfl rfl hkn (by simp) (by repeat (first | exact .head | apply Pick.tail | apply Put.tail)) ?_
      refine WL_chunkAs (k := .sl (.slice (some ⟨bb, 0, none⟩) x.balances.length bc) x.balances.length _ 22 1) (k' := .sl (.slice (some ⟨bb, 0, none⟩) x.balances.length bc) x.balances.length ((x.balances.set k (lessen (x.balances.getD k 0) less)).map u64) 22 1) (by repeat (first | exact .head | apply Pick.tail | apply Put.tail)) (by rw [lessen_set x.balances k less hkn]) ?_
      (refine WL_t ?_)
      refine WD_nil ?_
      (repeat (refine QX_then ?_))
      (refine WC_drawA [.blk b7 (stateS x ⟨ahist, avote, aval, ⟨some ⟨bb, 0, none⟩, bc⟩, aprev, acur, ⟨some ⟨sb, 0, none⟩, sc⟩⟩) 49, .sl (.slice (some ⟨sb, 0, none⟩) x.scores.length sc) x.scores.length (x.scores.map u64) 22 1] mixed (by kernel_rfl) (by repeat (first | exact Sel.nil | refine Sel.cons (by repeat (first | exact .head | apply Pick.tail | apply Put.tail)) ?_)) ?_)
      (repeat (first | (refine WD_p rfl rfl rfl (by first | exact val_move rfl | exact val_fieldAddr0 rfl) ?_) | (refine WD_q rfl rfl rfl (by apply val_load_blk; exact rfl; (repeat (first | exact .head | apply Pick.tail)); exact rfl) ?_)))
      refine WD_p rfl rfl rfl (val_indexAddr01 rfl rfl hsn) ?_
      refine WD_q rfl rfl rfl (val_load_sl (v := u64 x.scores[k]) rfl (by repeat (first | exact .head | apply Pick.tail | apply Put.tail)) (by simp [hsn])) ?_
      (repeat (first | (refine WD_p rfl rfl rfl (by first | exact val_move rfl | exact val_fieldAddr0 rfl) ?_) | (refine WD_q rfl rfl rfl (by apply val_load_blk; exact rfl; (repeat (first | exact .head | apply Pick.tail)); exact rfl) ?_)))
      refine WD_p rfl rfl rfl (val_indexAddr01 rfl rfl hsn) ?_
      refine WD_q rfl rfl rfl (val_load_sl (v := u64 x.scores[k]) rfl (by repeat (first | exact .head | apply Pick.tail | apply Put.tail)) (by simp [hsn])) ?_
      refine WD_p rfl rfl rfl (val_addUN (b := 1) rfl rfl (by omega)) ?_
      refine WD_p rfl rfl rfl (val_remUN rfl rfl (by omega)) ?_
      refine WD_p rfl rfl rfl (val_subU rfl rfl (Nat.le_of_lt_succ (Nat.mod_lt _ (by omega))) (by omega)) ?_
      refine WD_p rfl rfl rfl (val_indexAddr01 rfl rfl hsn) ?_
      (refine WD_t ?_)
      refine WL_store_sl (xs := x.scores.map u64) rfl rfl rfl rfl hsn (by simp) (by repeat (first | exact .head | apply Pick.tail | apply Put.tail)) ?_
      refine WL_chunkAs (k := .sl (.slice (some ⟨sb, 0, none⟩) x.scores.length sc) x.scores.length _ 22 1) (k' := .sl (.slice (some ⟨sb, 0, none⟩) x.scores.length sc) x.scores.length ((x.scores.set k (lessen (x.scores.getD k 0) less)).map u64) 22 1) (by repeat (first | exact .head | apply Pick.tail | apply Put.tail)) (by rw [lessen_set x.scores k less hsn]) ?_
      (refine WL_t ?_)
      refine WD_nil ?_
      skip
      exact QX_join k trivial ⟨rfl, rfl, rfl, trivial⟩ (by repeat (first | exact Sel.nil | refine Sel.cons (by repeat (first | exact .head | apply Pick.tail | apply Put.tail)) ?_))
    · have h0 : x.balances = [] := by have := of_decide_eq_false ht; exact List.eq_nil_of_length_eq_zero (by omega)
      have h1 : x.scores = [] := List.eq_nil_of_length_eq_zero (by rw [hx.ns, ← hx.nb, h0]; rfl)
      (repeat (refine WC_skip ?_))
      refine QX_join 0 trivial ⟨rfl, rfl, rfl, trivial⟩ ?_
      rw [show (x.balances.set 0 (lessen (x.balances.getD 0 0) less)) = x.balances from by rw [h0]; rfl, show (x.scores.set 0 (lessen (x.scores.getD 0 0) less)) = x.scores from by rw [h1]; rfl]
      exact (by repeat (first | exact Sel.nil | refine Sel.cons (by repeat (first | exact .head | apply Pick.tail | apply Put.tail)) ?_))
  obtain ⟨j, hj, hj8⟩ : ∃ j : Nat, IntKind.u64.wrap i % 8 = (j : Int) ∧ j < 8 := by
    have r1 := Int.emod_nonneg (IntKind.u64.wrap i) (show (8 : Int) ≠ 0 by decide)
    have r2 := Int.emod_lt_of_pos (IntKind.u64.wrap i) (show (0 : Int) < 8 by decide)
    exact ⟨(IntKind.u64.wrap i % 8).toNat, by omega, by omega⟩
  have hw0 : 0 ≤ IntKind.u64.wrap i := by rw [IntKind.wrap_u64]; omega
  have hjb : x.slashings[j].toNat ≤ 144115188075855872 := Nat.le_trans (sumU_mem (by simp)) hx.slash
  have hhb : x.header.slot.toNat ≤ 1099511627776 := by have := hx.head; have := hx.slot; omega
  generalize hA : (⟨ahist, avote, aval, ⟨bp, bc⟩, aprev, acur, ⟨sp, sc⟩⟩ : Addrs) = A
  (repeat (refine WC_seq ?_))
  (refine WC_drawA [.blk b7 (stateS x A) 49] mixed (by kernel_rfl) (by repeat (first | exact Sel.nil | refine Sel.cons (by repeat (first | exact .head | apply Pick.tail | apply Put.tail)) ?_)) ?_)
  (repeat (refine WD_p rfl rfl rfl (by exact val_move rfl) ?_))
  refine WD_p rfl rfl rfl (val_convert rfl) ?_
  refine WD_p rfl rfl rfl (val_remI rfl rfl (by decide) hw0) ?_
  refine WD_as 61 (.int .u64 (j : Int)) rfl (by rw [hj]) ?_
  (repeat (refine WD_p rfl rfl rfl (by exact val_fieldAddr0 rfl) ?_))
  refine WD_p rfl rfl rfl (val_indexAddr_arrC rfl rfl hj8) ?_
  refine WD_q rfl rfl rfl (val_load_cell (o := 979) (l := 8) (v := u64 x.slashings[j]) rfl .head rfl (by simp [u64sV, hj8])) ?_
  (repeat (refine WD_p rfl rfl rfl (by exact val_move rfl) ?_))
  refine WD_p rfl rfl rfl (val_convert rfl) ?_
  refine WD_p rfl rfl rfl (val_remI rfl rfl (by decide) hw0) ?_
  refine WD_as 68 (.int .u64 (j : Int)) rfl (by rw [hj]) ?_
  (repeat (refine WD_p rfl rfl rfl (by exact val_fieldAddr0 rfl) ?_))
  refine WD_p rfl rfl rfl (val_indexAddr_arrC rfl rfl hj8) ?_
  refine WD_q rfl rfl rfl (val_load_cell (o := 979) (l := 8) (v := u64 x.slashings[j]) rfl .head rfl (by simp [u64sV, hj8])) ?_
  refine WD_p rfl rfl rfl (val_addUN (b := 1) rfl rfl (by omega)) ?_
  refine WD_p rfl rfl rfl (val_remUN rfl rfl (by omega)) ?_
  refine WD_p rfl rfl rfl (val_subU rfl rfl (Nat.le_of_lt_succ (Nat.mod_lt _ (by omega))) (by omega)) ?_
  (repeat (refine WD_p rfl rfl rfl (by exact val_fieldAddr0 rfl) ?_))
  refine WD_p rfl rfl rfl (val_indexAddr_arrC rfl rfl hj8) ?_
  (refine WD_t ?_)
  refine WL_store rfl rfl rfl rfl .head (by repeat (first | exact PutSeg.inner (Nat.ble_eq_true_of_le (by omega)) | apply PutSeg.skip)) ?_
  refine WL_chunkAs (k' := .blk b7 (stateS (x.slashAt j (lessen x.slashings[j] less)) A) 49) .head (by simp only [stateS, StateD.slashAt]; rw [slash_put _ j hj8 (lessen x.slashings[j] less) (by rw [lessen_toNat])]) ?_
  (refine WL_t ?_)
  refine WD_nil ?_
  (repeat (refine WC_seq ?_))
  (refine WC_drawA [.blk b7 (stateS (x.slashAt j (lessen x.slashings[j] less)) A) 49] mixed (by kernel_rfl) (by repeat (first | exact Sel.nil | refine Sel.cons (by repeat (first | exact .head | apply Pick.tail | apply Put.tail)) ?_)) ?_)
  (repeat (first | (refine WD_p rfl rfl rfl (by first | exact val_move rfl | exact val_fieldAddr0 rfl | exact val_fieldAddr_0 rfl) ?_) | (refine WD_q rfl rfl rfl (by apply val_load_blk; exact rfl; (repeat (first | exact .head | apply Pick.tail)); exact rfl) ?_)))
  refine WD_p rfl rfl rfl (val_addUN (a := x.header.slot.toNat) (b := 1) rfl rfl (by omega)) ?_
  refine WD_p rfl rfl rfl (val_remUN (b := x.header.slot.toNat + 1) rfl rfl (by omega)) ?_
  refine WD_p rfl rfl rfl (val_subU (a := x.header.slot.toNat) (b := less.toNat % (x.header.slot.toNat + 1)) rfl rfl (Nat.le_of_lt_succ (Nat.mod_lt _ (by omega))) (by omega)) ?_
  (repeat (refine WD_p rfl rfl rfl (by first | exact val_fieldAddr0 rfl | exact val_fieldAddr_0 rfl) ?_))
  (refine WD_t ?_)
  refine WL_store rfl rfl rfl rfl .head (by repeat (first | exact PutSeg.one | apply PutSeg.skip | apply PutSeg.next | exact PutSeg.inner rfl)) ?_
  refine WL_chunkAs (k' := .blk b7 (stateS (x.lessAt k j less) A) 49) .head (by
    simp only [stateS, StateD.lessAt, StateD.slashAt, List.length_set, u64, lessen_toNat]
    rw [show x.slashings.toList.getD j 0 = x.slashings[j] from by simp [hj8]]) ?_
  (refine WL_t ?_)
  refine WD_nil ?_
  (repeat (first | (refine WC_seq ?_) | (refine WC_region ?_) | (refine WL_val rfl rfl rfl (by apply val_load_blk_agg; exact rfl; (repeat (first | exact .head | apply Pick.tail)); exact rfl) ?_)))
  have hyr := hx.less k j less hj8
  have hnb := hx.nb
  have hnv := hx.nv
  have hns := hx.ns
  have hzb : (x.lessAt k j less).validators.length ≤ 1048576 ∧ (x.lessAt k j less).balances.length ≤ 1048576 ∧ (x.lessAt k j less).scores.length ≤ 1048576 := by
    simp only [StateD.lessAt, List.length_set]; omega
  refine WL_as 89 (aggS (stateS (x.lessAt k j less) A)) rfl rfl ?_
  refine WL_call rfl rfl rfl .nil (fun w' hw' _ => stateRight w' (x.lessAt k j less) A (ListsAt.own hw' ?_) hzb) (fun r hr => ?_)
  · subst hA
    simp only [listsΔ, StateD.lessAt, List.length_set]
    exact (by repeat (first | exact Sel.nil | refine Sel.cons (by repeat (first | exact .head | apply Pick.tail | apply Put.tail)) ?_))
  obtain rfl : r = true := hr.2 hyr
  clear hr
  (repeat (first | (refine WC_seq ?_) | (refine WC_region ?_) | (refine WC_skip ?_) | (refine WL_nil ?_) | (refine QX_then ?_) | (refine WC_cond_false rfl ?_) | (refine WL_val rfl rfl rfl (by first | exact val_fieldAddr0 rfl | (apply val_load_blk; exact rfl; (repeat (first | exact .head | apply Pick.tail)); exact rfl) | exact val_not rfl) ?_)))
  refine WL_as 93 (.slice bp x.balances.length bc) rfl (by subst hA; simp [StateD.lessAt, PC.sl]) ?_
  refine WL_build1 rfl rfl rfl rfl rfl rfl rfl rfl rfl rfl (fun b9 => ?_)
  refine WL_append (v := .slice bp x.balances.length bc) rfl rfl rfl rfl rfl rfl (.tail (.tail (.tail (.tail (.tail .head))))) (SlRd.blk (k := 1) (m := 1) (vs := [.int .u64 0]) .head (by exact rfl) rfl (Nat.le_refl _) rfl) (by simp [Value.oneCell']) (by omega) (by omega) (fun p2 c2 => ?_)
  (repeat (refine WL_val rfl rfl rfl (by exact val_fieldAddr0 rfl) ?_))
  (first | (refine WL_store rfl rfl rfl rfl (by repeat (first | exact .head | apply Pick.tail | apply Put.tail)) (by repeat (first | exact PutSeg.one | apply PutSeg.skip | apply PutSeg.next | exact PutSeg.inner rfl)) ?_) | (refine WL_store_agg rfl rfl rfl (by repeat (first | exact .head | apply Pick.tail | apply Put.tail)) (by repeat (first | exact PutSeg.one | apply PutSeg.skip | apply PutSeg.next | exact PutSeg.inner rfl)) ?_))
  (repeat (first | (refine WC_seq ?_) | (refine WC_region ?_) | (refine WL_val rfl rfl rfl (by apply val_load_blk_agg; exact rfl; (repeat (first | exact .head | apply Pick.tail)); exact rfl) ?_)))
  generalize hy : x.lessAt k j less = y at hyr
  have hyb : y.balances = x.balances.set k (lessen (x.balances.getD k 0) less) := by rw [← hy]; rfl
  have hyl : x.balances.length = y.balances.length := by rw [hyb, List.length_set]
  have hA2 : ∃ A2 : Addrs, A2 = { A with balances := ⟨p2, c2⟩ } := ⟨_, rfl⟩
  obtain ⟨A2, hA2⟩ := hA2
  refine WL_as 97 (aggS (stateS { y with balances := y.balances ++ [0] } A2)) rfl (by rw [hA2]; simp only [stateS, PC.sl, hyl, List.length_append, List.length_singleton]) ?_
  refine WL_call rfl rfl rfl .nil (fun w' hw' _ => stateRight w' { y with balances := y.balances ++ [0] } A2 (ListsAt.own hw' ?_) ?_) (fun r hr => ?_)
  · subst hA2 hA hy
    simp only [listsΔ, StateD.lessAt, List.length_set, List.length_append, List.length_singleton, List.map_append, List.map_cons, List.map_nil]
    exact (by repeat (first | exact Sel.nil | refine Sel.cons (by repeat (first | exact .head | apply Pick.tail | apply Put.tail)) ?_))
  · subst hy
    simp only [StateD.lessAt, List.length_set, List.length_append, List.length_singleton]
    omega
  obtain rfl : r = false := by
    cases r
    · rfl
    · have h1 := (hr.1 rfl).nb
      have h2 := hyr.nb
      simp only [List.length_append, List.length_singleton] at h1
      omega
  (repeat (first | (refine WC_ret ?_) | (refine WL_val rfl rfl rfl (by first | exact val_assign rfl | exact val_not rfl) ?_)))
  refine QX_ret (l := [.tmp 6]) rfl (.tmp rfl .nil) ?_
  intro w' hw'
  exact gives () hw' trivial rfl .nil
end Go.PK

/- StateSizes: how many bytes a state has. -/
namespace Go.PK
open Go.Proofs

theorem failIf_err (s : OS) (b : Bool) (e : Int) (he : e ≠ 0) : (s.failIf b e).err = 0 ↔ s.err = 0 ∧ b = false := by
  cases b
  · simp [OS.failIf]
  · simp only [OS.failIf, OS.fail, if_true]
    split <;> simp_all
theorem later_err (s : OS) (l : List UInt8) : (s.later l 0).err = 0 ↔ s.err = 0 := by
  simp only [OS.later, OS.fail]; split <;> simp_all
theorem fits_of_err {x : StateD} (h : (stAll x).err = 0) : x.Fits := by
  have h6 : (6 : Int) ≠ 0 := by decide
  simp only [stAll, st1, st2, st3, later_err, OS.bytes_err, OS.u64_eq, failIf_err _ _ _ h6] at h
  simp only [decide_eq_false_iff_not, Nat.not_lt] at h
  exact ⟨by omega, by omega, by omega, by omega, by omega, by omega, by omega⟩
theorem encState_bad {x : StateD} (h : (stAll x).err ≠ 0) : encState x = [] := by simp [encState, OS.done, h]
theorem StateD.Fits.small {x : StateD} (h : x.Fits) : x.Small := by
  obtain ⟨h1, h2, h3, h4, h5, h6, h7⟩ := h
  exact ⟨by omega, by omega, by omega, by omega, by omega, by omega, by omega⟩

set_option maxHeartbeats 4000000 in
theorem lawSizes (w : World) (x : StateD) (a : Addrs) (hL : ListsAt w [] x a) (hz : x.Small) :
    Calls Try.prog 6 [aggS (stateS x a)].toArray w (Gives (fun _ : Unit => True) (fun _ => .bool true) (fun _ => []) [] w) := by
  refine calls_enter (fn := Try.f6) Try.func6 rfl Try.ntmps6 rfl (mem0 w) ?_
  (repeat (first | (refine WC_seq ?_) | (refine WC_region ?_)))
  (first | (refine WL_alloc rfl rfl (fun b1 => ?_)) | (refine WL_box_agg rfl rfl rfl inferInstance (fun b1 => ?_)) | (refine WL_box rfl rfl rfl rfl (fun b1 => ?_)))
  (repeat (first | (refine WC_seq ?_) | (refine WC_region ?_) | (refine WL_val rfl rfl rfl (by exact val_assign rfl) ?_)))
  refine WL_call rfl rfl rfl .nil (fun w' _ _ => law10Awake w') (fun _ _ => ?_)
  (repeat (first | (refine WC_seq ?_) | (refine WC_region ?_) | (refine WC_skip ?_) | (refine WL_nil ?_) | (refine QX_then ?_) | (refine WC_cond_false rfl ?_) | (refine WL_val rfl rfl rfl (by first | (apply val_load_blk_agg; exact rfl; (repeat (first | exact .head | apply Pick.tail)); exact rfl) | exact val_not rfl) ?_)))
  refine WL_as 11 (aggS (stateS x a)) rfl rfl ?_
  refine WL_call rfl rfl rfl .nil (fun w' hw' _ => encStateW w' x a (hL.pass hw' .nil) hz) (fun g _ => ?_)
  obtain ⟨gp, gc⟩ := g
  dsimp only
  (repeat (first | (refine WC_seq ?_) | (refine WC_region ?_) | (refine WL_nil ?_) | (refine QX_then ?_) | (refine WL_val rfl rfl rfl (by first | exact val_move rfl | exact val_assign rfl | exact val_extract rfl rfl | exact val_neq rfl rfl) ?_)))
  refine WC_cond rfl (fun ht => ?_) (fun ht => ?_)
  · have he := of_decide_eq_true ht
    (repeat (first | (refine WC_seq ?_) | (refine WC_region ?_) | (refine WC_ret ?_) | (refine QX_then_ret ?_) | (refine WL_val rfl rfl rfl (by first | exact val_move rfl | exact val_assign rfl | exact val_len rfl | exact val_eql rfl rfl) ?_)))
    refine QX_ret (l := [.tmp 2]) rfl (.tmp rfl .nil) ?_
    intro w' hw'
    exact gives () hw' trivial (by rw [encState_bad he]; rfl) .nil
  · have he : (stAll x).err = 0 := by have := of_decide_eq_false ht; simpa using this
    clear ht
    have hf := fits_of_err he
    have hlen := encState_length x hf
    have h0 : 0 < (encState x).length := by rw [hlen, stEnd]; omega
    obtain ⟨f1, f2, f3, f4, f5, f6, f7⟩ := id hf
    refine WC_slPos (p := gp) .head h0 (fun gb hgb => ?_)
    subst hgb
    (repeat (first | (refine WC_seq ?_) | (refine WC_region ?_) | (refine WC_skip ?_) | (refine WL_val rfl rfl rfl (by first | exact val_move rfl | exact val_assign rfl | exact val_fieldAddr0 rfl | (apply val_load_blk; exact rfl; (repeat (first | exact .head | apply Pick.tail)); exact rfl) | exact val_len rfl | (apply val_addI; exact rfl; exact rfl; omega; omega) | (apply val_mulI; exact rfl; exact rfl; omega; omega)) ?_)))
    refine WL_call rfl rfl rfl .nil (fun w' hw' _ => readStateW w' gb 0 gc x hf ⟨SlRd.sl .head w' hw', Sep.sl hw' .nil .head⟩) (fun ra _ => ?_)
    (repeat (refine WL_val rfl rfl rfl (by first | exact val_move rfl | exact val_extract rfl rfl) ?_))
    (first | (refine WL_alloc rfl rfl (fun b3 => ?_)) | (refine WL_box_agg rfl rfl rfl inferInstance (fun b3 => ?_)) | (refine WL_box rfl rfl rfl rfl (fun b3 => ?_)))
    refine WL_store_agg (q := stateS x ra) (segs' := stateS x ra) rfl rfl rfl .head (by repeat (first | exact PutSeg.one | apply PutSeg.skip | apply PutSeg.next | exact PutSeg.inner rfl)) ?_
    (repeat (first | (refine WC_seq ?_) | (refine WC_region ?_) | (refine WL_val rfl rfl rfl (by first | exact val_move rfl | exact val_assign rfl | exact val_len rfl | exact val_eql rfl rfl) ?_)))
    refine WL_bool 62 rfl (fun _ => ?_) (fun hf => absurd (of_decide_eq_false hf) (by rw [hlen, stEnd]; simp; omega))
    (repeat (refine WL_val rfl rfl rfl (by first | exact val_move rfl | exact val_fieldAddr0 rfl | (apply val_load_blk; exact rfl; (repeat (first | exact .head | apply Pick.tail)); exact rfl) | exact val_len rfl | exact val_pick_true rfl rfl | exact val_eql rfl rfl) ?_))
    refine WL_bool 75 rfl (fun _ => ?_) (fun hf => absurd rfl (of_decide_eq_false hf))
    (repeat (refine WL_val rfl rfl rfl (by first | exact val_move rfl | exact val_fieldAddr0 rfl | (apply val_load_blk; exact rfl; (repeat (first | exact .head | apply Pick.tail)); exact rfl) | exact val_len rfl | exact val_pick_true rfl rfl | exact val_eql rfl rfl) ?_))
    refine WL_bool 84 rfl (fun _ => ?_) (fun hf => absurd rfl (of_decide_eq_false hf))
    (repeat (refine WL_val rfl rfl rfl (by first | exact val_move rfl | exact val_fieldAddr0 rfl | (apply val_load_blk; exact rfl; (repeat (first | exact .head | apply Pick.tail)); exact rfl) | exact val_len rfl | exact val_pick_true rfl rfl | exact val_eql rfl rfl) ?_))
    refine WL_bool 93 rfl (fun _ => ?_) (fun hf => absurd rfl (of_decide_eq_false hf))
    (repeat (refine WL_val rfl rfl rfl (by first | exact val_move rfl | exact val_fieldAddr0 rfl | (apply val_load_blk; exact rfl; (repeat (first | exact .head | apply Pick.tail)); exact rfl) | exact val_len rfl | exact val_pick_true rfl rfl | exact val_eql rfl rfl) ?_))
    refine WL_bool 102 rfl (fun _ => ?_) (fun hf => absurd rfl (of_decide_eq_false hf))
    (repeat (refine WL_val rfl rfl rfl (by first | exact val_move rfl | exact val_fieldAddr0 rfl | (apply val_load_blk; exact rfl; (repeat (first | exact .head | apply Pick.tail)); exact rfl) | exact val_len rfl | exact val_pick_true rfl rfl | exact val_eql rfl rfl) ?_))
    refine WL_bool 111 rfl (fun _ => ?_) (fun hf => absurd rfl (of_decide_eq_false hf))
    (repeat (refine WL_val rfl rfl rfl (by first | exact val_move rfl | exact val_fieldAddr0 rfl | (apply val_load_blk; exact rfl; (repeat (first | exact .head | apply Pick.tail)); exact rfl) | exact val_len rfl | exact val_pick_true rfl rfl | exact val_eql rfl rfl) ?_))
    refine WL_bool 120 rfl (fun _ => ?_) (fun hf => absurd rfl (of_decide_eq_false hf))
    (repeat (first | (refine WC_ret ?_) | (refine WL_val rfl rfl rfl (by first | exact val_assign rfl | exact val_fieldAddr0 rfl | (apply val_load_blk; exact rfl; (repeat (first | exact .head | apply Pick.tail)); exact rfl) | exact val_len rfl | exact val_pick_true rfl rfl | exact val_eql rfl rfl) ?_)))
    refine QX_ret (l := [.tmp 2]) rfl (.tmp rfl .nil) ?_
    intro w' hw'
    exact gives () hw' trivial (by simp [packed]) .nil
end Go.PK

/- StateApart: states that differ have unlike bytes. (Part 6: Post, Wit, Wit2, Out, Out2, Out3, Out4, Enc, Bits, Enc2, St0, St1, St2, St3, St, Toks, In, In2, In3.) -/
import Derived.Test.YtdmfjpjhibhmhaaApe
import Derived.WideKeyArgs
import Derived.ChangeOld
import Derived.ProofKit
import Derived.JoinedCond

/- What a law's end says: true, and the arguments read as before, where nothing of the world has turned. Nothing of any program's text stands here. -/
namespace Go.PK
open Go.ChangeShapes Go.WideShapes Go.ChangeAt Go.RowKit

section
variable {H : Type} {enc : TypeId × Value → H} {P : Program}

theorem Reads.ofAgg {W : World} {sp : Nat → Bool} {t : TypeId} {cs : List Value} {d : DataW H} {p : List MemPlace} (h : DataW.Trod enc P W 0 sp true t (.agg cs.toArray) d p) : Reads enc P W sp t cs d := by
  obtain ⟨n, hn⟩ := h
  exact ⟨n, p, hn⟩

theorem Same.sameAt {W W' : World} (h : Same [] W W') (p : MemPlace) (hp : p.block < W.heap.size) : W.sameAt W' p := by
  cases p with
  | cell b off => exact World.cell?_of_block (h.block b hp (by simp))
  | map b => exact h.block b hp (by simp)

theorem trodAll_stays (hl : laidOutB P = true) {W W' : World} (hs : Same [] W W') : ∀ {ts : List TypeId} {vs : List Value} {ds : List (DataW H)} {ps : List MemPlace}, (∀ t ∈ ts, P.readableRec t = true ∧ t < P.types.size) →
    DataW.TrodAll enc P W 0 (fun _ => true) true ts vs ds ps → DataW.TrodAll enc P W' 0 (fun b => decide (b < W.heap.size)) true ts vs ds ps
  | [], [], [], _, _, h => h
  | t :: ts, v :: vs, d :: ds, ps, hr, h => by
    have hlt := h.lt
    obtain ⟨p, q, h1, h2, rfl⟩ := h
    have ht := hr t (by simp)
    refine ⟨p, q, WideElems.Trod_stays hl ht.1 ht.2 h1 (fun x hx => hs.sameAt x (hlt x (by simp [hx]))) (fun x hx => by simpa using hlt x (by simp [hx])), ?_, rfl⟩
    exact trodAll_stays hl hs (fun t ht => hr t (by simp [ht])) h2
  | [], [], _ :: _, _, _, h => h.elim
  | [], _ :: _, _, _, _, h => by cases h
  | _ :: _, [], _, _, _, h => by cases h
  | _ :: _, _ :: _, [], _, _, h => by cases h

theorem Same.kept {W W' : World} (h : Same [] W W') (may : MemPlace → Prop) : W.keptBut W' may := by
  refine ⟨h.os, h.output, fun i hi => ?_⟩
  rw [h.block i hi (by simp)]
  cases W.heap[i]? with
  | none => rfl
  | some o => cases o <;> simp

theorem postTrue {f : Func} {s : ChangeSpec} {W W' : World} {args : Array Value} {ds : List (DataW H)} {before : List MemPlace} {rt : TypeId} [Und P rt .bool] (hl : laidOutB P = true) (hv : s.vars = []) (hres : f.resultTypes = #[rt])
    (hW : DataW.Whole enc P f.params.toList s.vars false W args.toList ds [] before) (hr : ∀ t ∈ f.params.toList, P.readableRec t = true ∧ t < P.types.size) (hfn : s.fn H (ds ++ []) = { results := [.lit (.bool true)], args := ds }) (hm : Mem [] [] W W') :
    s.post enc P f false true false false W args (.bool true) W' := by
  have hW' := hW
  obtain ⟨p, q, hA, hV, rfl, _, _⟩ := hW
  rw [hv] at hV
  have hq : q = [] := hV
  subst hq
  refine ⟨ds, [], _, [], p, [], hW', ?_, ?_, ?_, hm.same.kept _, fun h => by cases h⟩
  · rw [hres, hfn]
    exact trodAll_cons_mk (shut_bool (Und.h (P := P) (t := rt)) _) trodAll_mk0
  · rw [hfn]
    exact trodAll_stays hl hm.same hr hA
  · rw [hv, hfn]
    exact rfl
end
end Go.PK
namespace Go
open Go.ChangeShapes

/-- A witness, its arguments' fit given (not reckoned). -/
theorem PK.witnessOf {H : Type} {enc : TypeId × Value → H} {C : Checked} {os : Os} {f : FuncId} {fn : Func} {s : OpenSpec} {k : (H : Type) → List (DataW H) → Bool} (hk : s.cond = some k) {conds : List PathCond} {apart : Bool} (modest : Bool) (args : Array Value) (fuel : Nat)
    (hv : (World.plainHolding C.prog os ⟨#[], args, []⟩).variablesB C.prog = true)
    (hr : ((World.plainHolding C.prog os ⟨#[], args, []⟩).heap.toList.drop C.prog.globals.size).take ((begin C.prog (fun _ _ => 0) default).world.heap.size - C.prog.globals.size) =
      (begin C.prog (fun _ _ => 0) default).world.heap.toList.drop C.prog.globals.size)
    (hno : C.prog.inits.idxOf? f = none) (hfn : C.prog.funcs[f]? = some fn) (hb : fn.body.isSome = true) (ho : fn.ours = false) (hf0 : fn.nfree = 0) (hsize : args.size = fn.params.size)
    (hargs : ∀ (j : Nat) (t : TypeId) (v : Value), fn.params[j]? = some t → args[j]? = some v → ∀ (w : World) (r : Reach) (base : Nat), Value.okWide C.prog w r base t v)
    {x : List (DataW H) × List (DataW H) × List MemPlace} (hx : DataW.whole enc C.prog (World.plainHolding C.prog os ⟨#[], args, []⟩).memory fn.params.toList s.vars apart args.toList fuel = some x)
    (hconds : conds.all (PathCond.test C.prog ⟨fn.params.toList, x.1, s.bare.plain.varTypes C.prog, x.2.1⟩) = true) (hkk : k H (x.1 ++ x.2.1) = true)
    (hsz : s.bare.sizedB enc C.prog fn apart (World.plainHolding C.prog os ⟨#[], args, []⟩).memory args fuel = true) :
    ∃ (w : World) (tape : Tape) (i : Input), w.os = os ∧ (w.forCall tape i).Shaped C.prog ∧ i.vars = [] ∧ Input.okWide C.prog (w.forCall tape i) .any w.heap.size f i ∧
      s.pre6 enc C.prog fn conds apart (w.forCall tape i).memory i.args ∧ ({ modest := modest } : Assume).holds C.prog (lone (Frame.enter C.prog f i.args .normal) [] (w.forCall tape i)) :=
  ⟨World.holding C.prog os ⟨#[], args, []⟩, fun _ _ => 0, ⟨#[], args, []⟩, rfl, World.shaped_of_B hv hr, rfl,
    ⟨fun o ho => by simp at ho, fun gv hg => by simp at hg, hno, fn, hfn, hb, ho, hf0, hsize, fun j t v h1 h2 => hargs j t v h1 h2 _ _ _⟩,
    ⟨(OpenSpec.pre_some hk conds apart _ _).2 ⟨x.1, x.2.1, x.2.2, DataW.Whole_of_whole hx, hconds, hkk⟩, sizedMet_of_sizedB hsz⟩, by
    simp only [Assume.holds]
    exact ⟨by simp, by simp, fun _ => Modest.zero, by simp, by simp⟩⟩
end Go

/- That a value given in segments fits its type. Nothing of any program's text stands here. -/
namespace Go.PK

section
variable {P : Program}

/-- Every cell of this segment fits the type u. -/
class SegAt (P : Program) (u : TypeId) (s : Seg) : Prop where
  h : ∀ (w : World) (r : Reach) (base : Nat), ∀ v ∈ s.2, Cell.okWide P w r base u v

theorem has_zero (k : IntKind) : k.has 0 := by cases k <;> exact ⟨by decide, by decide⟩
theorem okc_int {u : TypeId} {k : IntKind} {n : Int} [h : Und P u (.int k)] (hn : k.has n) (w : World) (r : Reach) (base : Nat) : Cell.okWide P w r base u (.int k n) := by
  simp [Cell.okWide, h.h, Cell.ok, hn]
instance {u : TypeId} {k : IntKind} [Und P u (.int k)] {n : Nat} : SegAt P u (n, List.replicate n (.int k 0)) := ⟨fun w r base v hv => by
  rw [(List.mem_replicate.1 hv).2]; exact okc_int (has_zero k) w r base⟩
instance {u : TypeId} {k : IntKind} [Und P u (.int k)] : SegAt P u (1, [.int k 0]) := ⟨fun w r base v hv => by
  simp at hv; subst hv; exact okc_int (has_zero k) w r base⟩
instance {u : TypeId} [h : Und P u .bool] {n : Nat} {b : Bool} : SegAt P u (n, List.replicate n (.bool b)) := ⟨fun w r base v hv => by
  rw [(List.mem_replicate.1 hv).2]; simp [Cell.okWide, h.h, Cell.ok]⟩
instance {u : TypeId} [h : Und P u .bool] {b : Bool} : SegAt P u (1, [.bool b]) := ⟨fun w r base v hv => by
  simp at hv; subst hv; simp [Cell.okWide, h.h, Cell.ok]⟩
instance {u e : TypeId} [h : Und P u (.slice e)] : SegAt P u (1, [.slice none 0 0]) := ⟨fun w r base v hv => by
  simp at hv; subst hv; simp [Cell.okWide, h.h, Cell.ok]⟩

def tflat : List (Nat × TypeId) → List TypeId
  | [] => []
  | (n, u) :: r => List.replicate n u ++ tflat r

class SegsAt (P : Program) (ts : List (Nat × TypeId)) (l : List Seg) : Prop where
  h : SegsOk l → (tflat ts).length = (flat l).length ∧ ∀ (w : World) (r : Reach) (base i : Nat) (v : Value), (flat l)[i]? = some v → ∃ u, (tflat ts)[i]? = some u ∧ Cell.okWide P w r base u v
instance : SegsAt P [] [] := ⟨fun _ => ⟨rfl, fun _ _ _ i v h => by simp [flat] at h⟩⟩
instance {n : Nat} {u : TypeId} {vs : List Value} {ts : List (Nat × TypeId)} {l : List Seg} [h1 : SegAt P u (n, vs)] [h2 : SegsAt P ts l] : SegsAt P ((n, u) :: ts) ((n, vs) :: l) := ⟨fun hok => by
  have hl : vs.length = n := hok.head.len
  obtain ⟨e1, e2⟩ := h2.h hok.tail
  refine ⟨by simp [tflat, flat, e1, hl], fun w r base i v hv => ?_⟩
  simp only [flat] at hv
  simp only [tflat]
  rcases Nat.lt_or_ge i n with h | h
  · rw [List.getElem?_append_left (by omega)] at hv
    rw [List.getElem?_append_left (by simpa using h)]
    refine ⟨u, by simp [h], h1.h w r base v ?_⟩
    exact List.mem_of_getElem? hv
  · rw [List.getElem?_append_right (by omega), hl] at hv
    rw [List.getElem?_append_right (by simpa using h), List.length_replicate]
    exact e2 w r base _ v hv⟩

theorem okWide_segs {t : TypeId} {ts : List (Nat × TypeId)} {l : List Seg} {z : Nat} [hA : IsAgg P t] [hz : Sz P t z] [hok : SegsOk l] [hs : SegsAt P ts l] (hts : P.cellTypes P.depth t = some (tflat ts)) (hw : Nat.beq (width l) z = true) (w : World) (r : Reach) (base : Nat) :
    Value.okWide P w r base t (aggS l) := by
  obtain ⟨e1, e2⟩ := hs.h hok
  have hlen : (flat l).length = z := by rw [flat_length l hok, Nat.eq_of_beq_eq_true hw]
  have key : ∃ cs, aggS l = .agg cs ∧ cs.size = P.cellsOf t ∧ Row.okWide P w r base t cs := by
    refine ⟨_, rfl, by rw [hz.cells]; simp [hlen], tflat ts, hts, ⟨1, by simp [e1]⟩, fun i v hv => ?_⟩
    have hv' : (flat l)[i]? = some v := by simpa using hv
    have hi : i < (flat l).length := by
      rcases Nat.lt_or_ge i (flat l).length with h | h
      · exact h
      · rw [List.getElem?_eq_none h] at hv'; cases hv'
    rw [Nat.mod_eq_of_lt (by omega)]
    exact e2 w r base i v hv'
  have hA' := hA.h
  cases hu : P.underlying t with
  | none => simp [hu] at hA'
  | some dd => cases dd <;> simp [hu] at hA' <;> simpa [Value.okWide, hu] using key
end
end Go.PK
namespace Go.PK
theorem okInt {P : Program} {t : TypeId} {k : IntKind} [h : Und P t (.int k)] (w : World) (r : Reach) (base : Nat) : Value.okWide P w r base t (.int k 0) := by
  have := okc_int (P := P) (u := t) (k := k) (has_zero k) w r base
  simpa [Value.okWide, h.h] using this
end Go.PK

/- That zero values fit their types. Written by a program (genwit.py). -/
namespace Go.PK
open Go.Proofs

abbrev zeroState : List Seg := [(1, [.int .u64 0]), (32, List.replicate 32 (.int .u8 0)), (1, [.int .u64 0]), (4, List.replicate 4 (.int .u8 0)), (4, List.replicate 4 (.int .u8 0)), (1, [.int .u64 0]), (1, [.int .u64 0]), (1, [.int .u64 0]), (32, List.replicate 32 (.int .u8 0)), (32, List.replicate 32 (.int .u8 0)), (32, List.replicate 32 (.int .u8 0)), (256, List.replicate 256 (.int .u8 0)), (256, List.replicate 256 (.int .u8 0)), (1, [.slice none 0 0]), (32, List.replicate 32 (.int .u8 0)), (1, [.int .u64 0]), (32, List.replicate 32 (.int .u8 0)), (1, [.slice none 0 0]), (1, [.int .u64 0]), (1, [.slice none 0 0]), (1, [.slice none 0 0]), (256, List.replicate 256 (.int .u8 0)), (8, List.replicate 8 (.int .u64 0)), (1, [.slice none 0 0]), (1, [.slice none 0 0]), (4, List.replicate 4 (.bool false)), (1, [.int .u64 0]), (32, List.replicate 32 (.int .u8 0)), (1, [.int .u64 0]), (32, List.replicate 32 (.int .u8 0)), (1, [.int .u64 0]), (32, List.replicate 32 (.int .u8 0)), (1, [.slice none 0 0]), (384, List.replicate 384 (.int .u8 0)), (48, List.replicate 48 (.int .u8 0)), (384, List.replicate 384 (.int .u8 0)), (48, List.replicate 48 (.int .u8 0))]
theorem cellsState : Try.prog.cellTypes Try.prog.depth 49 = some (tflat [(1, 22), (32, 5), (1, 22), (4, 5), (4, 5), (1, 22), (1, 22), (1, 22), (32, 5), (32, 5), (32, 5), (256, 5), (256, 5), (1, 32), (32, 5), (1, 22), (32, 5), (1, 35), (1, 22), (1, 36), (1, 37), (256, 5), (8, 22), (1, 39), (1, 39), (4, 4), (1, 22), (32, 5), (1, 22), (32, 5), (1, 22), (32, 5), (1, 37), (384, 5), (48, 5), (384, 5), (48, 5)]) := by kernel_rfl
set_option maxRecDepth 100000 in
set_option synthInstance.maxHeartbeats 200000 in
theorem fitState (w : World) (r : Reach) (base : Nat) : Value.okWide Try.prog w r base 49 (aggS zeroState) := okWide_segs cellsState rfl w r base
end Go.PK

/- The writer of containers (package wire's Out): contracts over a plain state of it. -/
namespace Go.PK
open Go.Proofs

/-- What an Out holds. -/
structure OS where
  head : List UInt8
  rest : List UInt8
  holes : List Nat
  ends : List Nat
  err : Int

def OS.init : OS := ⟨[], [], [], [], 0⟩
def OS.bytes (s : OS) (b : List UInt8) : OS := { s with head := s.head ++ b }
def OS.fail (s : OS) (e : Int) : OS := { s with err := if s.err = 0 then e else s.err }
def OS.later (s : OS) (b : List UInt8) (e : Int) : OS :=
  { head := s.head ++ [0, 0, 0, 0], rest := s.rest ++ b, holes := s.holes ++ [s.head.length], ends := s.ends ++ [s.rest.length], err := (s.fail e).err }

/-- the four slices of an Out: their addresses and capacities -/
structure O4 where
  p1 : Option Addr
  c1 : Nat
  p2 : Option Addr
  c2 : Nat
  p3 : Option Addr
  c3 : Nat
  p4 : Option Addr
  c4 : Nat

abbrev ints (l : List Nat) : List Value := l.map fun (n : Nat) => Value.int .i64 (n : Int)
theorem ints_one (l : List Nat) : ∀ v ∈ ints l, v.oneCell' = true := fun v hv => by obtain ⟨n, _, rfl⟩ := List.mem_map.1 hv; rfl

abbrev OutB (o : Nat) (g : O4) (nh nr no ne : Nat) (er : Int) : Chunk :=
  .blk o [(1, [.slice g.p1 nh g.c1]), (1, [.slice g.p2 nr g.c2]), (1, [.slice g.p3 no g.c3]), (1, [.slice g.p4 ne g.c4]), (1, [.int .i64 er])] 68
abbrev outΔ (o : Nat) (g : O4) (s : OS) : List Chunk :=
  [OutB o g s.head.length s.rest.length s.holes.length s.ends.length s.err,
   .sl (.slice g.p1 s.head.length g.c1) s.head.length (bs s.head) 5 1, .sl (.slice g.p2 s.rest.length g.c2) s.rest.length (bs s.rest) 5 1,
   .sl (.slice g.p3 s.holes.length g.c3) s.holes.length (ints s.holes) 3 1, .sl (.slice g.p4 s.ends.length g.c4) s.ends.length (ints s.ends) 3 1]

/-- What a method of an Out leaves. -/
abbrev OutGives (o : Nat) (s : OS) (S : List Nat) (w : World) : Ending → World → Prop :=
  Gives (fun _ : O4 => True) (fun _ => .tuple #[]) (fun g => outΔ o g s) S w

/-- eight bytes of a number, the lowest first -/
def le8 (n : Nat) : List UInt8 := [UInt8.ofNat (n / 2 ^ (8 * 0)), UInt8.ofNat (n / 2 ^ (8 * 1)), UInt8.ofNat (n / 2 ^ (8 * 2)), UInt8.ofNat (n / 2 ^ (8 * 3)), UInt8.ofNat (n / 2 ^ (8 * 4)), UInt8.ofNat (n / 2 ^ (8 * 5)), UInt8.ofNat (n / 2 ^ (8 * 6)), UInt8.ofNat (n / 2 ^ (8 * 7))]
@[simp] theorem le8_length (n : Nat) : (le8 n).length = 8 := rfl
instance {n : Nat} : SegOk (8, bs (le8 n)) := ⟨rfl, bs_one _⟩

/-- the first i of them -/
def le8To (n i : Nat) : List UInt8 := (le8 n).take i ++ List.replicate (8 - i) 0

theorem le8To_succ (n i : Nat) (h : i < 8) : (bs (le8To n i)).set i (by8 (UInt8.ofNat (n / 2 ^ (8 * i)))) = bs (le8To n (i + 1)) := by
  match i, h with
  | 0, _ => rfl
  | 1, _ => rfl
  | 2, _ => rfl
  | 3, _ => rfl
  | 4, _ => rfl
  | 5, _ => rfl
  | 6, _ => rfl
  | 7, _ => rfl

theorem wordBytes (w : World) (x : Nat) :
    Calls Try.prog 66 [.int .u64 x].toArray w (Gives (fun _ : Unit => True) (fun _ => aggS [(8, bs (le8 x))]) (fun _ => []) [] w) := by
  refine calls_enter (fn := Try.f66) Try.func66 rfl Try.ntmps66 rfl (mem0 w) ?_
  (repeat (first | (refine WC_seq ?_) | (refine WC_region ?_)))
  (first | (refine WL_alloc rfl rfl (fun b2 => ?_)) | (refine WL_box_agg rfl rfl rfl inferInstance (fun b2 => ?_)) | (refine WL_box rfl rfl rfl rfl (fun b2 => ?_)))
  (repeat (first | (refine WC_seq ?_) | (refine WC_region ?_)))
  (first | (refine WL_alloc rfl rfl (fun b3 => ?_)) | (refine WL_box_agg rfl rfl rfl inferInstance (fun b3 => ?_)) | (refine WL_box rfl rfl rfl rfl (fun b3 => ?_)))
  (repeat (first | (refine WC_seq ?_) | (refine WC_block ?_) | (refine WC_region ?_) | (refine WL_val rfl rfl rfl (by exact val_move rfl) ?_)))
  refine WC_loopS (G := Nat) (fun i => i ≤ 8) (fun i => [(0, .int .u64 x), (2, .pointer (some ⟨b2, 0, none⟩)), (3, .pointer (some ⟨b3, 0, none⟩)), (5, .int .i64 i)])
    (fun i => [.blk b3 [(8, bs (le8To x i))] 121, .blk b2 [(8, List.replicate 8 (.int .u8 0))] 121]) (fun i => 8 - i) 0 (by decide) ⟨rfl, rfl, rfl, rfl, trivial⟩ (by repeat (first | exact Sel.nil | refine Sel.cons (by repeat (first | exact .head | apply Pick.tail | apply Put.tail)) ?_)) ?_
  intro i hi
  (repeat (first | (refine WC_seq ?_) | (refine WC_region ?_) | (refine WL_val rfl rfl rfl (by exact val_lss rfl rfl) ?_)))
  refine WC_cond rfl (fun ht => ?_) (fun hf => ?_)
  · have hlt : i < 8 := by have := of_decide_eq_true ht; omega
    (repeat (first | (refine WC_seq ?_) | (refine WC_block ?_) | (refine WC_region ?_) | (refine WC_skip ?_) | (refine WL_val rfl rfl rfl (by first | exact val_move rfl | exact val_assign rfl | (apply val_mulI; exact rfl; exact rfl; omega; omega)) ?_)))
    refine WL_val rfl rfl rfl (val_shrU (s := 8 * i) rfl rfl (by omega)) ?_
    refine WL_val rfl rfl rfl (val_byte rfl) ?_
    refine WL_val rfl rfl rfl (val_indexAddr_arr rfl rfl (by omega) (by omega)) ?_
    rw [show 0 + (Int.toNat (i : Int)) * 1 = i from by simp]
    refine WL_store_at rfl rfl rfl rfl hlt (by repeat (first | exact .head | apply Pick.tail | apply Put.tail)) ?_
    rw [le8To_succ x i hlt]
    (repeat (first | (refine WC_region ?_) | (refine WL_nil ?_) | (refine WL_val rfl rfl rfl (by first | exact val_move rfl | (apply val_addI; exact rfl; exact rfl; omega; omega)) ?_)))
    exact QX_againS (i + 1) (by omega) (by omega) ⟨rfl, rfl, rfl, rfl, trivial⟩ (by repeat (first | exact Sel.nil | refine Sel.cons (by repeat (first | exact .head | apply Pick.tail | apply Put.tail)) ?_))
  · have hi8 : i = 8 := by have := of_decide_eq_false hf; omega
    subst hi8
    rw [show le8To x 8 = le8 x from rfl]
    (repeat (first | (refine WC_seq ?_) | (refine WC_region ?_) | (refine WC_exit ?_) | (refine WL_val rfl rfl rfl (by apply val_load_blk_agg; exact rfl; (repeat (first | exact .head | apply Pick.tail)); exact rfl) ?_)))
    (first | (refine WL_store rfl rfl rfl rfl (by repeat (first | exact .head | apply Pick.tail | apply Put.tail)) (by repeat (first | exact PutSeg.one | apply PutSeg.skip | apply PutSeg.next | exact PutSeg.inner rfl)) ?_) | (refine WL_store_agg rfl rfl rfl (by repeat (first | exact .head | apply Pick.tail | apply Put.tail)) (by repeat (first | exact PutSeg.one | apply PutSeg.skip | apply PutSeg.next | exact PutSeg.inner rfl)) ?_))
    (repeat (refine WC_ret ?_))
    refine QX_ret (l := [.cell 2 121]) rfl (.cell rfl (load_blk_agg (by repeat (first | exact .head | apply Pick.tail | apply Put.tail)) (by exact rfl)) .nil) ?_
    intro w' hw'
    exact gives () hw' trivial rfl (by repeat (first | exact Sel.nil | refine Sel.cons (by repeat (first | exact .head | apply Pick.tail | apply Put.tail)) ?_))
def OS.u64 (s : OS) (n : Nat) : OS := s.bytes (le8 n)

section
variable (w : World) (o : Nat) (g : O4) (s : OS) (S : List Nat)

theorem outBytes (b : Value) (bl : List UInt8) (hm : Mem (outΔ o g s) S w w) (hb : SlAt w 1 b bl.length (bs bl)) (hsep : Sep b (bs bl) S) (hsz : s.head.length + bl.length ≤ 70368744177664) :
    Calls Try.prog 37 [.pointer (some ⟨o, 0, none⟩), b].toArray w (OutGives o (s.bytes bl) S w) := by
  refine calls_enter (fn := Try.f37) Try.func37 rfl Try.ntmps37 rfl hm ?_
  (repeat (first | (refine WC_region ?_) | (refine WL_val rfl rfl rfl (by first | exact val_move rfl | exact val_fieldAddr0 rfl | (apply val_load_blk; exact rfl; (repeat (first | exact .head | apply Pick.tail)); exact rfl) | exact val_nilCheck rfl) ?_)))
  refine WL_append rfl rfl rfl rfl rfl rfl (by repeat (first | exact .head | apply Pick.tail | apply Put.tail)) (SlV.old hb hsep) (bs_one _) (by omega) (by omega) (fun p c => ?_)
  (repeat (refine WL_val rfl rfl rfl (by first | exact val_fieldAddr0 rfl | exact val_nilCheck rfl) ?_))
  (first | (refine WL_store rfl rfl rfl rfl (by repeat (first | exact .head | apply Pick.tail | apply Put.tail)) (by repeat (first | exact PutSeg.one | apply PutSeg.skip | apply PutSeg.next | exact PutSeg.inner rfl)) ?_) | (refine WL_store_agg rfl rfl rfl (by repeat (first | exact .head | apply Pick.tail | apply Put.tail)) (by repeat (first | exact PutSeg.one | apply PutSeg.skip | apply PutSeg.next | exact PutSeg.inner rfl)) ?_))
  (repeat (refine WL_nil ?_))
  refine QX_end (l := []) rfl .nil ?_
  intro w' hw'
  rw [← bs_append, ← List.length_append] at hw'
  exact gives ⟨p, c, g.p2, g.c2, g.p3, g.c3, g.p4, g.c4⟩ hw' trivial rfl (by repeat (first | exact Sel.nil | refine Sel.cons (by repeat (first | exact .head | apply Pick.tail | apply Put.tail)) ?_))

theorem outU64 (x : Nat) (hm : Mem (outΔ o g s) S w w) (hsz : s.head.length ≤ 70368744177600) :
    Calls Try.prog 36 [.pointer (some ⟨o, 0, none⟩), .int .u64 x].toArray w (OutGives o (s.u64 x) S w) := by
  refine calls_enter (fn := Try.f36) Try.func36 rfl Try.ntmps36 rfl hm ?_
  (repeat (first | (refine WC_seq ?_) | (refine WC_region ?_) | (refine WL_val rfl rfl rfl (by exact val_move rfl) ?_)))
  refine WL_call rfl rfl rfl .nil (fun w' _ _ => wordBytes w' x) (fun _ _ => ?_)
  skip
  (first | (refine WL_alloc rfl rfl (fun b => ?_)) | (refine WL_box_agg rfl rfl rfl inferInstance (fun b => ?_)) | (refine WL_box rfl rfl rfl rfl (fun b => ?_)))
  (first | (refine WL_store rfl rfl rfl rfl (by repeat (first | exact .head | apply Pick.tail | apply Put.tail)) (by repeat (first | exact PutSeg.one | apply PutSeg.skip | apply PutSeg.next | exact PutSeg.inner rfl)) ?_) | (refine WL_store_agg rfl rfl rfl (by repeat (first | exact .head | apply Pick.tail | apply Put.tail)) (by repeat (first | exact PutSeg.one | apply PutSeg.skip | apply PutSeg.next | exact PutSeg.inner rfl)) ?_))
  (repeat (first | (refine WL_nil ?_) | (refine QX_then ?_)))
  (refine WC_drawA [OutB o g s.head.length s.rest.length s.holes.length s.ends.length s.err] mixed (by kernel_rfl) (by repeat (first | exact Sel.nil | refine Sel.cons (by repeat (first | exact .head | apply Pick.tail | apply Put.tail)) ?_)) ?_)
  (repeat (first | (refine WD_p rfl rfl rfl (by first | exact val_move rfl | exact val_fieldAddr0 rfl | exact val_nilCheck rfl | exact val_slice_arr rfl) ?_) | (refine WD_q rfl rfl rfl (by apply val_load_blk; exact rfl; (repeat (first | exact .head | apply Pick.tail)); exact rfl) ?_)))
  (refine WD_t ?_)
  refine WL_append rfl rfl rfl rfl rfl rfl (by repeat (first | exact .head | apply Pick.tail | apply Put.tail)) (SlRd.blk (k := 8) (m := 8) (by repeat (first | exact .head | apply Pick.tail | apply Put.tail)) (by exact rfl) rfl (Nat.le_refl _) rfl) (bs_one _) (by omega) (by omega) (fun p c => ?_)
  (refine WL_t ?_)
  (repeat (refine WD_p rfl rfl rfl (by first | exact val_fieldAddr0 rfl | exact val_nilCheck rfl) ?_))
  (refine WD_t ?_)
  (first | (refine WL_store rfl rfl rfl rfl (by repeat (first | exact .head | apply Pick.tail | apply Put.tail)) (by repeat (first | exact PutSeg.one | apply PutSeg.skip | apply PutSeg.next | exact PutSeg.inner rfl)) ?_) | (refine WL_store_agg rfl rfl rfl (by repeat (first | exact .head | apply Pick.tail | apply Put.tail)) (by repeat (first | exact PutSeg.one | apply PutSeg.skip | apply PutSeg.next | exact PutSeg.inner rfl)) ?_))
  (refine WL_t ?_)
  refine WD_nil ?_
  refine QX_end (l := []) rfl .nil ?_
  intro w' hw'
  rw [← bs_append, ← le8_length x, ← List.length_append] at hw'
  exact gives ⟨p, c, g.p2, g.c2, g.p3, g.c3, g.p4, g.c4⟩ hw' trivial rfl (by repeat (first | exact Sel.nil | refine Sel.cons (by repeat (first | exact .head | apply Pick.tail | apply Put.tail)) ?_))

theorem outFail (x : Int) (hm : Mem (outΔ o g s) S w w) :
    Calls Try.prog 40 [.pointer (some ⟨o, 0, none⟩), .int .i64 x].toArray w (OutGives o (s.fail x) S w) := by
  refine calls_enter (fn := Try.f40) Try.func40 rfl Try.ntmps40 rfl hm ?_
  (repeat (first | (refine WC_seq ?_) | (refine WC_region ?_) | (refine WL_nil ?_) | (refine QX_then ?_) | (refine WL_val rfl rfl rfl (by first | exact val_move rfl | exact val_fieldAddr0 rfl | (apply val_load_blk; exact rfl; (repeat (first | exact .head | apply Pick.tail)); exact rfl) | exact val_nilCheck rfl | exact val_eql rfl rfl) ?_)))
  refine WC_cond rfl (fun ht => ?_) (fun hf => ?_)
  · have h0 : s.err = 0 := of_decide_eq_true ht
    (repeat (first | (refine WC_region ?_) | (refine WL_val rfl rfl rfl (by first | exact val_move rfl | exact val_fieldAddr0 rfl | exact val_nilCheck rfl) ?_)))
    (first | (refine WL_store rfl rfl rfl rfl (by repeat (first | exact .head | apply Pick.tail | apply Put.tail)) (by repeat (first | exact PutSeg.one | apply PutSeg.skip | apply PutSeg.next | exact PutSeg.inner rfl)) ?_) | (refine WL_store_agg rfl rfl rfl (by repeat (first | exact .head | apply Pick.tail | apply Put.tail)) (by repeat (first | exact PutSeg.one | apply PutSeg.skip | apply PutSeg.next | exact PutSeg.inner rfl)) ?_))
    (repeat (refine WL_nil ?_))
    refine QX_end (l := []) rfl .nil ?_
    intro w' hw'
    have e : (s.fail x) = { s with err := x } := by simp [OS.fail, h0]
    rw [e]
    exact gives g hw' trivial rfl (by repeat (first | exact Sel.nil | refine Sel.cons (by repeat (first | exact .head | apply Pick.tail | apply Put.tail)) ?_))
  · have h0 : ¬ s.err = 0 := of_decide_eq_false hf
    (repeat (refine WC_skip ?_))
    refine QX_end (l := []) rfl .nil ?_
    intro w' hw'
    have e : (s.fail x) = s := by simp [OS.fail, h0]
    rw [e]
    exact gives g hw' trivial rfl (by repeat (first | exact Sel.nil | refine Sel.cons (by repeat (first | exact .head | apply Pick.tail | apply Put.tail)) ?_))

def flagB (b : Bool) : List UInt8 := if b then [1] else [0]
def OS.flag (s : OS) (b : Bool) : OS := s.bytes (flagB b)

theorem outFlag (x : Bool) (hm : Mem (outΔ o g s) S w w) (hsz : s.head.length ≤ 70368744177600) :
    Calls Try.prog 67 [.pointer (some ⟨o, 0, none⟩), .bool x].toArray w (OutGives o (s.flag x) S w) := by
  refine calls_enter (fn := Try.f67) Try.func67 rfl Try.ntmps67 rfl hm ?_
  cases x
  · (repeat (first | (refine WC_seq ?_) | (refine WC_region ?_) | (refine WL_nil ?_) | (refine QX_then ?_) | (refine WC_cond_false rfl ?_) | (refine WL_val rfl rfl rfl (by first | exact val_move rfl | exact val_fieldAddr0 rfl | (apply val_load_blk; exact rfl; (repeat (first | exact .head | apply Pick.tail)); exact rfl) | exact val_nilCheck rfl) ?_)))
    refine WL_build1 rfl rfl rfl rfl rfl rfl rfl rfl rfl (by decide) (fun b => ?_)
    refine WL_append rfl rfl rfl rfl rfl rfl (by repeat (first | exact .head | apply Pick.tail | apply Put.tail)) (SlRd.blk (k := 1) (m := 1) (by repeat (first | exact .head | apply Pick.tail | apply Put.tail)) (by exact rfl) rfl (Nat.le_refl _) rfl) (by simp [Value.oneCell']) (by omega) (by omega) (fun p c => ?_)
    (repeat (refine WL_val rfl rfl rfl (by first | exact val_fieldAddr0 rfl | exact val_nilCheck rfl) ?_))
    (first | (refine WL_store rfl rfl rfl rfl (by repeat (first | exact .head | apply Pick.tail | apply Put.tail)) (by repeat (first | exact PutSeg.one | apply PutSeg.skip | apply PutSeg.next | exact PutSeg.inner rfl)) ?_) | (refine WL_store_agg rfl rfl rfl (by repeat (first | exact .head | apply Pick.tail | apply Put.tail)) (by repeat (first | exact PutSeg.one | apply PutSeg.skip | apply PutSeg.next | exact PutSeg.inner rfl)) ?_))
    (repeat (refine WL_nil ?_))
    refine QX_end (l := []) rfl .nil ?_
    intro w' hw'
    rw [show [Value.int IntKind.u8 0] = bs [0] from rfl, ← bs_append, show s.head.length + 1 = (s.head ++ [0]).length from by simp] at hw'
    exact gives ⟨p, c, g.p2, g.c2, g.p3, g.c3, g.p4, g.c4⟩ hw' trivial rfl (by repeat (first | exact Sel.nil | refine Sel.cons (by repeat (first | exact .head | apply Pick.tail | apply Put.tail)) ?_))
  · (repeat (first | (refine WC_seq ?_) | (refine WC_region ?_) | (refine WL_nil ?_) | (refine QX_then ?_) | (refine WC_cond_true rfl ?_) | (refine WL_val rfl rfl rfl (by first | exact val_move rfl | exact val_fieldAddr0 rfl | (apply val_load_blk; exact rfl; (repeat (first | exact .head | apply Pick.tail)); exact rfl) | exact val_nilCheck rfl) ?_)))
    refine WL_build1 rfl rfl rfl rfl rfl rfl rfl rfl rfl (by decide) (fun b => ?_)
    refine WL_append rfl rfl rfl rfl rfl rfl (by repeat (first | exact .head | apply Pick.tail | apply Put.tail)) (SlRd.blk (k := 1) (m := 1) (by repeat (first | exact .head | apply Pick.tail | apply Put.tail)) (by exact rfl) rfl (Nat.le_refl _) rfl) (by simp [Value.oneCell']) (by omega) (by omega) (fun p c => ?_)
    (repeat (refine WL_val rfl rfl rfl (by first | exact val_fieldAddr0 rfl | exact val_nilCheck rfl) ?_))
    (first | (refine WL_store rfl rfl rfl rfl (by repeat (first | exact .head | apply Pick.tail | apply Put.tail)) (by repeat (first | exact PutSeg.one | apply PutSeg.skip | apply PutSeg.next | exact PutSeg.inner rfl)) ?_) | (refine WL_store_agg rfl rfl rfl (by repeat (first | exact .head | apply Pick.tail | apply Put.tail)) (by repeat (first | exact PutSeg.one | apply PutSeg.skip | apply PutSeg.next | exact PutSeg.inner rfl)) ?_))
    (repeat (refine WL_nil ?_))
    refine QX_end (l := []) rfl .nil ?_
    intro w' hw'
    rw [show [Value.int IntKind.u8 1] = bs [1] from rfl, ← bs_append, show s.head.length + 1 = (s.head ++ [1]).length from by simp] at hw'
    exact gives ⟨p, c, g.p2, g.c2, g.p3, g.c3, g.p4, g.c4⟩ hw' trivial rfl (by repeat (first | exact Sel.nil | refine Sel.cons (by repeat (first | exact .head | apply Pick.tail | apply Put.tail)) ?_))

end
end Go.PK

/- Out.Later -/
namespace Go.PK
open Go.Proofs
section
variable (w : World) (o : Nat) (g : O4) (s : OS) (S : List Nat)

theorem outLater (b : Value) (bl : List UInt8) (x : Int) (hm : Mem (outΔ o g s) S w w) (hb : SlAt w 1 b bl.length (bs bl)) (hsep : Sep b (bs bl) S)
    (h1 : s.head.length ≤ 70368744177600) (h2 : s.rest.length + bl.length ≤ 140737488355328) (h3 : s.holes.length ≤ 1000) (h4 : s.ends.length ≤ 1000) :
    Calls Try.prog 41 [.pointer (some ⟨o, 0, none⟩), b, .int .i64 x].toArray w (OutGives o (s.later bl x) S w) := by
  refine calls_enter (fn := Try.f41) Try.func41 rfl Try.ntmps41 rfl hm ?_
  (repeat (first | (refine WC_seq ?_) | (refine WC_region ?_) | (refine WL_val rfl rfl rfl (by exact val_move rfl) ?_)))
  refine WL_call rfl rfl rfl (by repeat (first | exact Take.nil | apply Take.cons (by repeat (first | exact .head | apply Pick.tail | apply Put.tail)))) (fun w' _ hd => outFail w' o g s _ x hd) (fun g1 _ => ?_)
  show WL _ _ _ _ _ _ (OutB o g1 s.head.length s.rest.length s.holes.length s.ends.length (s.fail x).err :: .sl (.slice g1.p1 s.head.length g1.c1) s.head.length (bs s.head) 5 1 :: .sl (.slice g1.p2 s.rest.length g1.c2) s.rest.length (bs s.rest) 5 1 ::
   .sl (.slice g1.p3 s.holes.length g1.c3) s.holes.length (ints s.holes) 3 1 :: .sl (.slice g1.p4 s.ends.length g1.c4) s.ends.length (ints s.ends) 3 1 :: []) _ _
  (repeat (refine WC_seq ?_))
  (refine WC_draw1 0 rfl mixed (by kernel_rfl) ?_)
  (repeat (first | (refine WD_p rfl rfl rfl (by first | exact val_move rfl | exact val_fieldAddr0 rfl | exact val_nilCheck rfl | exact val_len rfl) ?_) | (refine WD_q rfl rfl rfl (by apply val_load_blk; exact rfl; (repeat (first | exact .head | apply Pick.tail)); exact rfl) ?_)))
  (refine WD_g ?_)
  refine WL_build1 rfl rfl rfl rfl rfl rfl rfl rfl rfl rfl (fun b1 => ?_)
  (refine WL_g (by repeat (first | exact Sel.nil | refine Sel.cons (by repeat (first | exact .head | apply Pick.tail | apply Put.tail)) ?_)) ?_)
  skip
  (refine WD_t ?_)
  refine WL_append rfl rfl rfl rfl rfl rfl (by repeat (first | exact .head | apply Pick.tail | apply Put.tail)) (SlRd.blk (k := 1) (m := 1) (by repeat (first | exact .head | apply Pick.tail | apply Put.tail)) (by exact rfl) rfl (Nat.le_refl _) rfl) (by simp [Value.oneCell']) (by omega) (by omega) (fun p3 c3 => ?_)
  (refine WL_t ?_)
  (repeat (refine WD_p rfl rfl rfl (by first | exact val_fieldAddr0 rfl | exact val_nilCheck rfl) ?_))
  (refine WD_t ?_)
  (first | (refine WL_store rfl rfl rfl rfl (by repeat (first | exact .head | apply Pick.tail | apply Put.tail)) (by repeat (first | exact PutSeg.one | apply PutSeg.skip | apply PutSeg.next | exact PutSeg.inner rfl)) ?_) | (refine WL_store_agg rfl rfl rfl (by repeat (first | exact .head | apply Pick.tail | apply Put.tail)) (by repeat (first | exact PutSeg.one | apply PutSeg.skip | apply PutSeg.next | exact PutSeg.inner rfl)) ?_))
  (refine WL_t ?_)
  refine WD_nil ?_
  refine QX_sel (Δ := [.blk o [(1, [.slice g1.p1 s.head.length g1.c1]), (1, [.slice g1.p2 s.rest.length g1.c2]), (1, [.slice p3 (s.holes.length + 1) c3]), (1, [.slice g1.p4 s.ends.length g1.c4]), (1, [.int .i64 (s.fail x).err])] 68,
     .sl (.slice g1.p1 s.head.length g1.c1) s.head.length (bs s.head) 5 1, .sl (.slice g1.p2 s.rest.length g1.c2) s.rest.length (bs s.rest) 5 1, .sl (.slice p3 (s.holes.length + 1) c3) (s.holes.length + 1) (ints s.holes ++ [.int .i64 (s.head.length : Int)]) 3 1, .sl (.slice g1.p4 s.ends.length g1.c4) s.ends.length (ints s.ends) 3 1]) (by repeat (first | exact Sel.nil | refine Sel.cons (by repeat (first | exact .head | apply Pick.tail | apply Put.tail)) ?_)) ?_
  (repeat (refine WC_seq ?_))
  (refine WC_draw1 0 rfl mixed (by kernel_rfl) ?_)
  (repeat (first | (refine WD_p rfl rfl rfl (by first | exact val_move rfl | exact val_fieldAddr0 rfl | exact val_nilCheck rfl | exact val_len rfl) ?_) | (refine WD_q rfl rfl rfl (by apply val_load_blk; exact rfl; (repeat (first | exact .head | apply Pick.tail)); exact rfl) ?_)))
  (refine WD_g ?_)
  refine WL_build1 rfl rfl rfl rfl rfl rfl rfl rfl rfl rfl (fun b1 => ?_)
  (refine WL_g (by repeat (first | exact Sel.nil | refine Sel.cons (by repeat (first | exact .head | apply Pick.tail | apply Put.tail)) ?_)) ?_)
  skip
  (refine WD_t ?_)
  refine WL_append rfl rfl rfl rfl rfl rfl (by repeat (first | exact .head | apply Pick.tail | apply Put.tail)) (SlRd.blk (k := 1) (m := 1) (by repeat (first | exact .head | apply Pick.tail | apply Put.tail)) (by exact rfl) rfl (Nat.le_refl _) rfl) (by simp [Value.oneCell']) (by omega) (by omega) (fun p4 c4 => ?_)
  (refine WL_t ?_)
  (repeat (refine WD_p rfl rfl rfl (by first | exact val_fieldAddr0 rfl | exact val_nilCheck rfl) ?_))
  (refine WD_t ?_)
  (first | (refine WL_store rfl rfl rfl rfl (by repeat (first | exact .head | apply Pick.tail | apply Put.tail)) (by repeat (first | exact PutSeg.one | apply PutSeg.skip | apply PutSeg.next | exact PutSeg.inner rfl)) ?_) | (refine WL_store_agg rfl rfl rfl (by repeat (first | exact .head | apply Pick.tail | apply Put.tail)) (by repeat (first | exact PutSeg.one | apply PutSeg.skip | apply PutSeg.next | exact PutSeg.inner rfl)) ?_))
  (refine WL_t ?_)
  refine WD_nil ?_
  (repeat (first | (refine WC_seq ?_) | (refine WC_region ?_) | (refine WL_val rfl rfl rfl (by first | exact val_move rfl | exact val_fieldAddr0 rfl | (apply val_load_blk; exact rfl; (repeat (first | exact .head | apply Pick.tail)); exact rfl) | exact val_nilCheck rfl) ?_)))
  refine WL_build1 rfl rfl rfl rfl rfl rfl rfl rfl rfl (by decide) (fun b2 => ?_)
  refine WL_append rfl rfl rfl rfl rfl rfl (by repeat (first | exact .head | apply Pick.tail | apply Put.tail)) (SlRd.blk (k := 4) (m := 4) (by repeat (first | exact .head | apply Pick.tail | apply Put.tail)) (by exact rfl) rfl (Nat.le_refl _) rfl) (by simp [Value.oneCell']) (by omega) (by omega) (fun p1 c1 => ?_)
  (repeat (refine WL_val rfl rfl rfl (by first | exact val_fieldAddr0 rfl | exact val_nilCheck rfl) ?_))
  (first | (refine WL_store rfl rfl rfl rfl (by repeat (first | exact .head | apply Pick.tail | apply Put.tail)) (by repeat (first | exact PutSeg.one | apply PutSeg.skip | apply PutSeg.next | exact PutSeg.inner rfl)) ?_) | (refine WL_store_agg rfl rfl rfl (by repeat (first | exact .head | apply Pick.tail | apply Put.tail)) (by repeat (first | exact PutSeg.one | apply PutSeg.skip | apply PutSeg.next | exact PutSeg.inner rfl)) ?_))
  (repeat (first | (refine WC_region ?_) | (refine WL_val rfl rfl rfl (by first | exact val_move rfl | exact val_fieldAddr0 rfl | (apply val_load_blk; exact rfl; (repeat (first | exact .head | apply Pick.tail)); exact rfl) | exact val_nilCheck rfl) ?_)))
  refine WL_append rfl rfl rfl rfl rfl rfl (by repeat (first | exact .head | apply Pick.tail | apply Put.tail)) (SlV.old hb hsep) (bs_one _) (by omega) (by omega) (fun p2 c2 => ?_)
  (repeat (refine WL_val rfl rfl rfl (by first | exact val_fieldAddr0 rfl | exact val_nilCheck rfl) ?_))
  (first | (refine WL_store rfl rfl rfl rfl (by repeat (first | exact .head | apply Pick.tail | apply Put.tail)) (by repeat (first | exact PutSeg.one | apply PutSeg.skip | apply PutSeg.next | exact PutSeg.inner rfl)) ?_) | (refine WL_store_agg rfl rfl rfl (by repeat (first | exact .head | apply Pick.tail | apply Put.tail)) (by repeat (first | exact PutSeg.one | apply PutSeg.skip | apply PutSeg.next | exact PutSeg.inner rfl)) ?_))
  (repeat (refine WL_nil ?_))
  refine QX_end (l := []) rfl .nil ?_
  intro w' hw'
  rw [show [Value.int IntKind.u8 0, Value.int IntKind.u8 0, Value.int IntKind.u8 0, Value.int IntKind.u8 0] = bs [0, 0, 0, 0] from rfl, ← bs_append, ← bs_append,
    show ints s.ends ++ [Value.int IntKind.i64 (s.rest.length : Int)] = ints (s.ends ++ [s.rest.length]) from by simp, show ints s.holes ++ [Value.int IntKind.i64 (s.head.length : Int)] = ints (s.holes ++ [s.head.length]) from by simp,
    show s.head.length + 4 = (s.head ++ [0, 0, 0, 0]).length from by simp, ← List.length_append, show s.ends.length + 1 = (s.ends ++ [s.rest.length]).length from by simp, show s.holes.length + 1 = (s.holes ++ [s.head.length]).length from by simp] at hw'
  exact gives ⟨p1, c1, p2, c2, p3, c3, p4, c4⟩ hw' trivial rfl (by repeat (first | exact Sel.nil | refine Sel.cons (by repeat (first | exact .head | apply Pick.tail | apply Put.tail)) ?_))
end
end Go.PK

/- Out.Done: the bytes, with the holes filled. -/
namespace Go.PK
open Go.Proofs

/-- the first j bytes of a number put at a place -/
def putK (h : List UInt8) (a n j : Nat) : List UInt8 := (List.range j).foldl (fun h k => h.set (a + k) (UInt8.ofNat (n / 2 ^ (8 * k)))) h
theorem putK_succ (h : List UInt8) (a n j : Nat) : putK h a n (j + 1) = (putK h a n j).set (a + j) (UInt8.ofNat (n / 2 ^ (8 * j))) := by simp [putK, List.range_succ, List.foldl_append]
@[simp] theorem putK_length (h : List UInt8) (a n j : Nat) : (putK h a n j).length = h.length := by
  induction j with
  | zero => rfl
  | succ j ih => rw [putK_succ]; simpa using ih

/-- the head with the first i holes filled -/
def OS.fill (s : OS) (i : Nat) : List UInt8 := (List.range i).foldl (fun h k => putK h (s.holes.getD k 0) (s.head.length + s.ends.getD k 0) 4) s.head
theorem OS.fill_succ (s : OS) (i : Nat) : s.fill (i + 1) = putK (s.fill i) (s.holes.getD i 0) (s.head.length + s.ends.getD i 0) 4 := by simp [OS.fill, List.range_succ, List.foldl_append]
@[simp] theorem OS.fill_length (s : OS) (i : Nat) : (s.fill i).length = s.head.length := by
  induction i with
  | zero => rfl
  | succ j ih => rw [OS.fill_succ]; simpa using ih

/-- what Done gives -/
def OS.done (s : OS) : List UInt8 := if s.err = 0 then s.fill s.holes.length ++ s.rest else []

theorem bs_set (l : List UInt8) (i : Nat) (x : UInt8) : (bs l).set i (by8 x) = bs (l.set i x) := by simp [bs, List.map_set]
@[simp] theorem bs_length' (l : List UInt8) : (bs l).length = l.length := by simp [bs]

section
variable (w : World) (o : Nat) (g : O4) (s : OS) (S : List Nat)

theorem outDone (hm : Mem (outΔ o g s) S w w) (hl : s.ends.length = s.holes.length) (hh : ∀ h ∈ s.holes, h + 4 ≤ s.head.length) (he : ∀ h ∈ s.ends, h ≤ s.rest.length) (hk : s.holes.length ≤ 1000000000)
    (hsz : s.head.length + s.rest.length ≤ 140737488355328) :
    Calls Try.prog 21 [.pointer (some ⟨o, 0, none⟩)].toArray w
      (Gives (fun _ : Option Addr × Nat => True) (fun g => .tuple #[.slice g.1 s.done.length g.2, .int .i64 s.err]) (fun g => [.sl (.slice g.1 s.done.length g.2) s.done.length (bs s.done) 5 1]) S w) := by
  obtain ⟨p1, c1, p2, c2, p3, c3, p4, c4⟩ := g
  refine calls_enter (fn := Try.f21) Try.func21 rfl Try.ntmps21 rfl hm ?_
  (repeat (first | (refine WC_seq ?_) | (refine WC_region ?_) | (refine WL_nil ?_) | (refine QX_then ?_) | (refine WL_val rfl rfl rfl (by first | exact val_move rfl | exact val_assign rfl | exact val_fieldAddr0 rfl | (apply val_load_blk; exact rfl; (repeat (first | exact .head | apply Pick.tail)); exact rfl) | exact val_nilCheck rfl | exact val_neq rfl rfl) ?_)))
  refine WC_cond rfl (fun ht => ?_) (fun hf => ?_)
  · have h0 : ¬ s.err = 0 := of_decide_eq_true ht
    (repeat (refine WC_seq ?_))
    (refine WC_draw1 0 rfl mixed (by kernel_rfl) ?_)
    (repeat (first | (refine WD_p rfl rfl rfl (by first | exact val_move rfl | exact val_assign rfl | exact val_fieldAddr0 rfl | exact val_nilCheck rfl) ?_) | (refine WD_q rfl rfl rfl (by apply val_load_blk; exact rfl; (repeat (first | exact .head | apply Pick.tail)); exact rfl) ?_)))
    refine WD_nil ?_
    (repeat (first | (refine WC_ret ?_) | (refine QX_then_ret ?_)))
    refine QX_nil 5 1 ?_
    refine QX_ret (l := [.tmp 2, .tmp 3]) rfl (.tmp rfl (.tmp rfl .nil)) ?_
    intro w' hw'
    have e : s.done = [] := by simp [OS.done, h0]
    rw [e]
    exact gives (none, 0) hw' trivial rfl (by repeat (first | exact Sel.nil | refine Sel.cons (by repeat (first | exact .head | apply Pick.tail | apply Put.tail)) ?_))
  · have h0 : s.err = 0 := by have := of_decide_eq_false hf; simpa using this
    (repeat (first | (refine WC_seq ?_) | (refine WC_block ?_) | (refine WC_region ?_) | (refine WC_skip ?_) | (refine WL_val rfl rfl rfl (by first | exact val_move rfl | exact val_fieldAddr0 rfl | (apply val_load_blk; exact rfl; (repeat (first | exact .head | apply Pick.tail)); exact rfl) | exact val_nilCheck rfl | exact val_len rfl) ?_)))
    refine WC_loopS (G := Nat) (fun i => i ≤ s.holes.length) (fun i => [(0, .pointer (some ⟨o, 0, none⟩)), (20, .slice p3 s.holes.length c3), (21, .int .i64 s.holes.length), (22, .int .i64 i)])
      (fun i => [OutB o ⟨p1, c1, p2, c2, p3, c3, p4, c4⟩ s.head.length s.rest.length s.holes.length s.ends.length s.err,
        .sl (.slice p1 s.head.length c1) s.head.length (bs (s.fill i)) 5 1, .sl (.slice p2 s.rest.length c2) s.rest.length (bs s.rest) 5 1,
        .sl (.slice p3 s.holes.length c3) s.holes.length (ints s.holes) 3 1, .sl (.slice p4 s.ends.length c4) s.ends.length (ints s.ends) 3 1]) (fun i => s.holes.length - i) 0 (Nat.zero_le _) ⟨rfl, rfl, rfl, rfl, trivial⟩ (by repeat (first | exact Sel.nil | refine Sel.cons (by repeat (first | exact .head | apply Pick.tail | apply Put.tail)) ?_)) ?_
    intro i hi
    (repeat (first | (refine WC_seq ?_) | (refine WC_region ?_) | (refine WL_val rfl rfl rfl (by exact val_lss rfl rfl) ?_)))
    refine WC_cond rfl (fun ht => ?_) (fun hf => ?_)
    · have hlt : i < s.holes.length := by have := of_decide_eq_true ht; omega
      have hlt' : i < s.ends.length := by omega
      have hat := hh s.holes[i] (List.getElem_mem _)
      have hen := he s.ends[i] (List.getElem_mem _)
      refine WC_slPos (Pick.tail (Pick.tail (Pick.tail .head))) (by omega) (fun b3 h3 => ?_)
      refine WC_slPos (Pick.tail (Pick.tail (Pick.tail (Pick.tail .head)))) (by omega) (fun b4 h4 => ?_)
      refine WC_slPos (Pick.tail .head) (by omega) (fun b1 h1 => ?_)
      subst h1 h3 h4
      (repeat (first | (refine WC_seq ?_) | (refine WC_block ?_) | (refine WC_region ?_) | (refine WC_skip ?_) | (refine WL_val rfl rfl rfl (by exact val_move rfl) ?_)))
      refine WL_val rfl rfl rfl (val_indexAddr01 rfl rfl hlt) ?_
      refine WL_val rfl rfl rfl (val_load_sl (v := .int .i64 (s.holes[i] : Nat)) rfl (Pick.tail (Pick.tail (Pick.tail .head))) (by simp [ints, hlt])) ?_
      (repeat (first | (refine WC_seq ?_) | (refine WL_val rfl rfl rfl (by exact val_assign rfl) ?_)))
      (refine WC_draw2 0 3 rfl rfl mixed (by kernel_rfl) ?_)
      (repeat (first | (refine WD_p rfl rfl rfl (by first | exact val_move rfl | exact val_fieldAddr0 rfl | exact val_nilCheck rfl | exact val_len rfl) ?_) | (refine WD_q rfl rfl rfl (by apply val_load_blk; exact rfl; (repeat (first | exact .head | apply Pick.tail)); exact rfl) ?_)))
      refine WD_p rfl rfl rfl (val_indexAddr01 rfl rfl hlt') ?_
      refine WD_q rfl rfl rfl (val_load_sl (v := .int .i64 (s.ends[i] : Nat)) rfl (Pick.tail .head) (by simp [ints, hlt'])) ?_
      (repeat (refine WD_p rfl rfl rfl (by first | exact val_assign rfl | (apply val_addN; exact rfl; exact rfl; omega)) ?_))
      refine WD_nil ?_
      (repeat (first | (refine WC_seq ?_) | (refine WC_block ?_) | (refine WC_region ?_) | (refine WL_val rfl rfl rfl (by exact val_move rfl) ?_)))
      refine WC_loopS (G := Nat) (fun k => k ≤ 4) (fun k => [(0, .pointer (some ⟨o, 0, none⟩)), (5, .int .i64 (s.holes[i] : Nat)), (6, .int .i64 ((s.head.length + s.ends[i] : Nat) : Int)), (20, .slice (some ⟨b3, 0, none⟩) s.holes.length c3), (21, .int .i64 s.holes.length), (22, .int .i64 i), (40, .int .i64 k)])
        (fun k => [OutB o ⟨some ⟨b1, 0, none⟩, c1, p2, c2, some ⟨b3, 0, none⟩, c3, some ⟨b4, 0, none⟩, c4⟩ s.head.length s.rest.length s.holes.length s.ends.length s.err,
          .sl (.slice (some ⟨b1, 0, none⟩) s.head.length c1) s.head.length (bs (putK (s.fill i) s.holes[i] (s.head.length + s.ends[i]) k)) 5 1, .sl (.slice p2 s.rest.length c2) s.rest.length (bs s.rest) 5 1,
          .sl (.slice (some ⟨b3, 0, none⟩) s.holes.length c3) s.holes.length (ints s.holes) 3 1, .sl (.slice (some ⟨b4, 0, none⟩) s.ends.length c4) s.ends.length (ints s.ends) 3 1]) (fun k => 4 - k) 0 (Nat.zero_le _) ⟨rfl, rfl, rfl, rfl, rfl, rfl, rfl, trivial⟩ (by repeat (first | exact Sel.nil | refine Sel.cons (by repeat (first | exact .head | apply Pick.tail | apply Put.tail)) ?_)) ?_
      intro k hk4
      (repeat (first | (refine WC_seq ?_) | (refine WC_region ?_) | (refine WL_val rfl rfl rfl (by exact val_lss rfl rfl) ?_)))
      refine WC_cond rfl (fun ht => ?_) (fun hf => ?_)
      · have hk5 : k < 4 := by have := of_decide_eq_true ht; omega
        (repeat (first | (refine WC_seq ?_) | (refine WC_block ?_) | (refine WC_region ?_) | (refine WC_skip ?_) | (refine WL_nil ?_) | (refine QX_then ?_) | (refine WL_val rfl rfl rfl (by first | exact val_move rfl | exact val_assign rfl) ?_)))
        (refine WC_draw1 0 rfl mixed (by kernel_rfl) ?_)
        (repeat (first | (refine WD_p rfl rfl rfl (by first | exact val_move rfl | exact val_fieldAddr0 rfl | exact val_nilCheck rfl | (apply val_addN; exact rfl; exact rfl; omega) | (apply val_mulI; exact rfl; exact rfl; omega; omega)) ?_) | (refine WD_q rfl rfl rfl (by apply val_load_blk; exact rfl; (repeat (first | exact .head | apply Pick.tail)); exact rfl) ?_)))
        refine WD_p rfl rfl rfl (val_shrN (s := 8 * k) rfl rfl (by omega)) ?_
        refine WD_p rfl rfl rfl (val_byte rfl) ?_
        refine WD_p rfl rfl rfl (val_indexAddr01 rfl rfl (by omega)) ?_
        (refine WD_t ?_)
        refine WL_store_sl rfl rfl rfl rfl (by omega) (by simp) (Put.tail .head) ?_
        rw [bs_set, ← putK_succ]
        (refine WL_t ?_)
        refine WD_nil ?_
        (repeat (first | (refine WC_region ?_) | (refine WL_nil ?_) | (refine WL_val rfl rfl rfl (by first | exact val_move rfl | (apply val_addI; exact rfl; exact rfl; omega; omega)) ?_)))
        exact QX_againS (k + 1) (by omega) (by omega) ⟨rfl, rfl, rfl, rfl, rfl, rfl, rfl, trivial⟩ (by repeat (first | exact Sel.nil | refine Sel.cons (by repeat (first | exact .head | apply Pick.tail | apply Put.tail)) ?_))
      · have hk5 : k = 4 := by have := of_decide_eq_false hf; omega
        subst hk5
        (repeat (first | (refine WC_region ?_) | (refine WC_exit ?_) | (refine WL_nil ?_) | (refine WL_val rfl rfl rfl (by first | exact val_move rfl | (apply val_addI; exact rfl; exact rfl; omega; omega)) ?_)))
        have e : putK (s.fill i) s.holes[i] (s.head.length + s.ends[i]) 4 = s.fill (i + 1) := by rw [OS.fill_succ]; simp [hlt, hlt']
        rw [e]
        exact QX_againS (i + 1) (by omega) (by omega) ⟨rfl, rfl, rfl, rfl, trivial⟩ (by repeat (first | exact Sel.nil | refine Sel.cons (by repeat (first | exact .head | apply Pick.tail | apply Put.tail)) ?_))
    · have hi8 : i = s.holes.length := by have := of_decide_eq_false hf; omega
      subst hi8
      (repeat (first | (refine WC_seq ?_) | (refine WC_exit ?_)))
      (refine WC_draw1 0 rfl mixed (by kernel_rfl) ?_)
      (repeat (first | (refine WD_p rfl rfl rfl (by first | exact val_move rfl | exact val_fieldAddr0 rfl | exact val_nilCheck rfl) ?_) | (refine WD_q rfl rfl rfl (by apply val_load_blk; exact rfl; (repeat (first | exact .head | apply Pick.tail)); exact rfl) ?_)))
      (refine WD_t ?_)
      refine WL_slRd (Pick.tail (Pick.tail .head)) (fun hrd => ?_)
      refine WL_append rfl rfl rfl rfl rfl rfl (Pick.tail .head) hrd (bs_one _) (by omega) (by omega) (fun p c => ?_)
      (refine WL_t ?_)
      (repeat (refine WD_p rfl rfl rfl (by exact val_assign rfl) ?_))
      refine WD_nil ?_
      (repeat (refine WC_ret ?_))
      refine QX_ret (l := [.tmp 2, .tmp 3]) rfl (.tmp rfl (.tmp rfl .nil)) ?_
      intro w' hw'
      have e : s.done = s.fill s.holes.length ++ s.rest := by simp [OS.done, h0]
      rw [← bs_append, ← e, show s.head.length + s.rest.length = s.done.length from by rw [e]; simp] at hw'
      refine gives (p, c) hw' trivial ?_ (by repeat (first | exact Sel.nil | refine Sel.cons (by repeat (first | exact .head | apply Pick.tail | apply Put.tail)) ?_))
      rw [h0, e]; simp [packed]
end
end Go.PK

/- Calls of an Out's methods as steps. -/
namespace Go.PK
open Go.Proofs

/-- An Out that was made by its methods. -/
structure OS.Ok (s : OS) : Prop where
  hl : s.ends.length = s.holes.length
  hh : ∀ h ∈ s.holes, h + 4 ≤ s.head.length
  he : ∀ h ∈ s.ends, h ≤ s.rest.length

theorem OS.Ok.init : OS.Ok OS.init := ⟨rfl, fun h hm => by simp [OS.init] at hm, fun h hm => by simp [OS.init] at hm⟩
theorem OS.Ok.bytes {s : OS} (h : s.Ok) (b : List UInt8) : (s.bytes b).Ok := ⟨h.hl, fun x hx => by have := h.hh x hx; simp [OS.bytes]; omega, h.he⟩
theorem OS.Ok.u64 {s : OS} (h : s.Ok) (b : Nat) : (s.u64 b).Ok := h.bytes _
theorem OS.Ok.flag {s : OS} (h : s.Ok) (b : Bool) : (s.flag b).Ok := h.bytes _
theorem OS.Ok.fail {s : OS} (h : s.Ok) (x : Int) : (s.fail x).Ok := ⟨h.hl, h.hh, h.he⟩
theorem OS.Ok.later {s : OS} (h : s.Ok) (b : List UInt8) (x : Int) : (s.later b x).Ok := ⟨by simp [OS.later, h.hl], fun y hy => by
    simp [OS.later] at hy ⊢
    rcases hy with hy | rfl
    · have := h.hh y hy; omega
    · omega, fun y hy => by
    simp [OS.later] at hy ⊢
    rcases hy with hy | rfl
    · have := h.he y hy; omega
    · omega⟩

@[simp] theorem OS.bytes_head (s : OS) (b : List UInt8) : (s.bytes b).head = s.head ++ b := rfl
@[simp] theorem OS.bytes_rest (s : OS) (b : List UInt8) : (s.bytes b).rest = s.rest := rfl
@[simp] theorem OS.bytes_holes (s : OS) (b : List UInt8) : (s.bytes b).holes = s.holes := rfl
@[simp] theorem OS.bytes_ends (s : OS) (b : List UInt8) : (s.bytes b).ends = s.ends := rfl
@[simp] theorem OS.bytes_err (s : OS) (b : List UInt8) : (s.bytes b).err = s.err := rfl
@[simp] theorem OS.u64_eq (s : OS) (n : Nat) : s.u64 n = s.bytes (le8 n) := rfl
@[simp] theorem OS.flag_eq (s : OS) (x : Bool) : s.flag x = s.bytes (flagB x) := rfl
@[simp] theorem flagB_length (x : Bool) : (flagB x).length = 1 := by cases x <;> rfl
@[simp] theorem OS.init_head : OS.init.head = [] := rfl
@[simp] theorem OS.init_rest : OS.init.rest = [] := rfl
@[simp] theorem OS.init_holes : OS.init.holes = [] := rfl
@[simp] theorem OS.init_ends : OS.init.ends = [] := rfl
@[simp] theorem OS.init_err : OS.init.err = 0 := rfl
@[simp] theorem OS.fail_head (s : OS) (x : Int) : (s.fail x).head = s.head := rfl
@[simp] theorem OS.fail_rest (s : OS) (x : Int) : (s.fail x).rest = s.rest := rfl
@[simp] theorem OS.fail_holes (s : OS) (x : Int) : (s.fail x).holes = s.holes := rfl
@[simp] theorem OS.fail_ends (s : OS) (x : Int) : (s.fail x).ends = s.ends := rfl
@[simp] theorem OS.later_head (s : OS) (b : List UInt8) (x : Int) : (s.later b x).head = s.head ++ [0, 0, 0, 0] := rfl
@[simp] theorem OS.later_rest (s : OS) (b : List UInt8) (x : Int) : (s.later b x).rest = s.rest ++ b := rfl
@[simp] theorem OS.later_holes (s : OS) (b : List UInt8) (x : Int) : (s.later b x).holes = s.holes ++ [s.head.length] := rfl
@[simp] theorem OS.later_ends (s : OS) (b : List UInt8) (x : Int) : (s.later b x).ends = s.ends ++ [s.rest.length] := rfl

theorem OS.done_flat {s : OS} (h : s.holes = []) (h0 : s.err = 0) : s.done = s.head ++ s.rest := by simp [OS.done, h, h0, OS.fill]

theorem Take.left {Δ A : List Chunk} : Take Δ (Δ ++ A) A := by
  induction Δ with
  | nil => exact .nil
  | cons c r ih => exact .cons .head ih
theorem Pick.right {c : Chunk} {Δ A A' : List Chunk} (h : Pick c A A') : Pick c (Δ ++ A) (Δ ++ A') := by
  induction Δ with
  | nil => exact h
  | cons c r ih => exact .tail ih
theorem Put.right {c c' : Chunk} {Δ A A' : List Chunk} (h : Put c c' A A') : Put c c' (Δ ++ A) (Δ ++ A') := by
  induction Δ with
  | nil => exact h
  | cons c r ih => exact .tail ih
theorem Sel.left {Δ A : List Chunk} : Sel Δ (Δ ++ A) := by
  induction Δ with
  | nil => exact .nil
  | cons c r ih => exact .cons .head ih

def O4.none : O4 := ⟨Option.none, 0, Option.none, 0, Option.none, 0, Option.none, 0⟩

section rules
variable {Q : Exit → Act → World → Prop} {n : Nat} {e : Env} {Γ Γ' A A' : List Chunk} {S : List Nat} {w0 : World} {ops : Array Oper} {rest : List Oper}
  {d : Nat} {ty : TypeId} {pos : String} {after : Array Edge} {gd : Option (Nat × Bool)} {x y z : Operand} {ts : Array TypeId} {o : Nat} {g : O4} {s : OS}

/-- A fresh Out. -/
theorem WL_out0 (hp : Pick (.blk o [(1, [.slice none 0 0]), (1, [.slice none 0 0]), (1, [.slice none 0 0]), (1, [.slice none 0 0]), (1, [.int .i64 0])] 68) Γ A)
    (h : WL Try.prog ops Q rest n e (outΔ o O4.none OS.init ++ A) S w0) : WL Try.prog ops Q rest n e Γ S w0 := fun a w st => by
  refine h a w ⟨st.fits, ?_⟩
  refine ((((st.mem.nilSl 5 1).nilSl 5 1).nilSl 3 1).nilSl 3 1).perm ?_
  have h1 := hp.perm
  refine ((((h1.cons _).cons _).cons _).cons _).trans ?_
  exact List.Perm.append_right A (l₁ := [.sl (.slice none 0 0) 0 [] 3 1, .sl (.slice none 0 0) 0 [] 3 1, .sl (.slice none 0 0) 0 [] 5 1, .sl (.slice none 0 0) 0 [] 5 1,
    .blk o [(1, [.slice none 0 0]), (1, [.slice none 0 0]), (1, [.slice none 0 0]), (1, [.slice none 0 0]), (1, [.int .i64 0])] 68]) (List.reverse_perm _).symm

theorem WL_outBlk {bb oo m c : Nat} {segs : List Seg} {bt : TypeId} {bl : List UInt8} (hw : wantedE ops e gd = some true) (hd : Nat.blt d n = true) (hx : ev e x = some (.pointer (some ⟨o, 0, none⟩))) (hy : ev e y = some (.slice (some ⟨bb, oo, none⟩) m c))
    (hp : Pick (.blk bb segs bt) A A') (hq : spanAt segs oo m = some [(m, bs bl)]) (hl : bl.length = m) (hc : m ≤ c) (hsz : s.head.length + m ≤ 70368744177664)
    (h : ∀ g', WL Try.prog ops Q rest n ((d, .tuple #[]) :: e) (outΔ o g' (s.bytes bl) ++ A) S w0) :
    WL Try.prog ops Q (⟨some d, .call ⟨.value (.func 37), #[x, y], ts⟩, ty, pos, after, gd⟩ :: rest) n e (outΔ o g s ++ A) S w0 := by
  subst hl
  refine WL_call (l := [x, y]) (Δ := outΔ o g s) (A := A) hw hd (by simp only [evs, hx, hy]; rfl) Take.left (fun w hm hΔ => outBytes w o g s _ _ bl hΔ ?_ ?_ hsz) (fun g' _ => h g')
  · exact (SlRd.blk (k := bl.length) (m := bl.length) (sz := 1) (Pick.right hp) hq (by simp) hc (by simp)).at hm
  · exact Sep.blk hm Take.left hp

theorem WL_outSl {p : Option Addr} {m c : Nat} {bl : List UInt8} (hw : wantedE ops e gd = some true) (hd : Nat.blt d n = true) (hx : ev e x = some (.pointer (some ⟨o, 0, none⟩))) (hy : ev e y = some (.slice p m c))
    (hp : Pick (.sl (.slice p m c) m (bs bl) 5 1) A A') (hl : bl.length = m) (hsz : s.head.length + m ≤ 70368744177664)
    (h : ∀ g', WL Try.prog ops Q rest n ((d, .tuple #[]) :: e) (outΔ o g' (s.bytes bl) ++ A') S w0) :
    WL Try.prog ops Q (⟨some d, .call ⟨.value (.func 37), #[x, y], ts⟩, ty, pos, after, gd⟩ :: rest) n e (outΔ o g s ++ A) S w0 := by
  subst hl
  refine WL_call (l := [x, y]) (Δ := outΔ o g s) (A := A) hw hd (by simp only [evs, hx, hy]; rfl) Take.left (fun w hm hΔ => outBytes w o g s _ _ bl hΔ ?_ ?_ hsz) (fun g' _ => WL_drop (Pick.right hp) (h g'))
  · exact SlRd.sl (Pick.right hp) w hm
  · exact Sep.sl hm Take.left hp

theorem WL_laterSl {p : Option Addr} {m c : Nat} {bl : List UInt8} {er : Int} (hw : wantedE ops e gd = some true) (hd : Nat.blt d n = true) (hx : ev e x = some (.pointer (some ⟨o, 0, none⟩))) (hy : ev e y = some (.slice p m c)) (hz : ev e z = some (.int .i64 er))
    (hp : Pick (.sl (.slice p m c) m (bs bl) 5 1) A A') (hl : bl.length = m)
    (h1 : s.head.length ≤ 70368744177600) (h2 : s.rest.length + m ≤ 140737488355328) (h3 : s.holes.length ≤ 1000) (h4 : s.ends.length ≤ 1000)
    (h : ∀ g', WL Try.prog ops Q rest n ((d, .tuple #[]) :: e) (outΔ o g' (s.later bl er) ++ A') S w0) :
    WL Try.prog ops Q (⟨some d, .call ⟨.value (.func 41), #[x, y, z], ts⟩, ty, pos, after, gd⟩ :: rest) n e (outΔ o g s ++ A) S w0 := by
  subst hl
  refine WL_call (l := [x, y, z]) (Δ := outΔ o g s) (A := A) hw hd (by simp only [evs, hx, hy, hz]; rfl) Take.left (fun w hm hΔ => outLater w o g s _ _ bl er hΔ ?_ ?_ h1 h2 h3 h4) (fun g' _ => WL_drop (Pick.right hp) (h g'))
  · exact SlRd.sl (Pick.right hp) w hm
  · exact Sep.sl hm Take.left hp

theorem WL_outU64 {k : Nat} (hw : wantedE ops e gd = some true) (hd : Nat.blt d n = true) (hx : ev e x = some (.pointer (some ⟨o, 0, none⟩))) (hy : ev e y = some (.int .u64 (k : Int))) (hsz : s.head.length ≤ 70368744177600)
    (h : ∀ g', WL Try.prog ops Q rest n ((d, .tuple #[]) :: e) (outΔ o g' (s.u64 k) ++ A) S w0) :
    WL Try.prog ops Q (⟨some d, .call ⟨.value (.func 36), #[x, y], ts⟩, ty, pos, after, gd⟩ :: rest) n e (outΔ o g s ++ A) S w0 :=
  WL_call (l := [x, y]) (Δ := outΔ o g s) (A := A) hw hd (by simp only [evs, hx, hy]) Take.left (fun w _ hΔ => outU64 w o g s _ k hΔ hsz) (fun g' _ => h g')

theorem WL_outFlag {k : Bool} (hw : wantedE ops e gd = some true) (hd : Nat.blt d n = true) (hx : ev e x = some (.pointer (some ⟨o, 0, none⟩))) (hy : ev e y = some (.bool k)) (hsz : s.head.length ≤ 70368744177600)
    (h : ∀ g', WL Try.prog ops Q rest n ((d, .tuple #[]) :: e) (outΔ o g' (s.flag k) ++ A) S w0) :
    WL Try.prog ops Q (⟨some d, .call ⟨.value (.func 67), #[x, y], ts⟩, ty, pos, after, gd⟩ :: rest) n e (outΔ o g s ++ A) S w0 :=
  WL_call (l := [x, y]) (Δ := outΔ o g s) (A := A) hw hd (by simp only [evs, hx, hy]) Take.left (fun w _ hΔ => outFlag w o g s _ k hΔ hsz) (fun g' _ => h g')

theorem WL_outFail {k : Int} (hw : wantedE ops e gd = some true) (hd : Nat.blt d n = true) (hx : ev e x = some (.pointer (some ⟨o, 0, none⟩))) (hy : ev e y = some (.int .i64 k))
    (h : ∀ g', WL Try.prog ops Q rest n ((d, .tuple #[]) :: e) (outΔ o g' (s.fail k) ++ A) S w0) :
    WL Try.prog ops Q (⟨some d, .call ⟨.value (.func 40), #[x, y], ts⟩, ty, pos, after, gd⟩ :: rest) n e (outΔ o g s ++ A) S w0 :=
  WL_call (l := [x, y]) (Δ := outΔ o g s) (A := A) hw hd (by simp only [evs, hx, hy]) Take.left (fun w _ hΔ => outFail w o g s _ k hΔ) (fun g' _ => h g')

theorem WL_outDone (hw : wantedE ops e gd = some true) (hd : Nat.blt d n = true) (hx : ev e x = some (.pointer (some ⟨o, 0, none⟩))) (hok : s.Ok) (hk : s.holes.length ≤ 1000) (hsz : s.head.length + s.rest.length ≤ 140737488355328)
    (h : ∀ p c, WL Try.prog ops Q rest n ((d, .tuple #[.slice p s.done.length c, .int .i64 s.err]) :: e) (.sl (.slice p s.done.length c) s.done.length (bs s.done) 5 1 :: A) S w0) :
    WL Try.prog ops Q (⟨some d, .call ⟨.value (.func 21), #[x], ts⟩, ty, pos, after, gd⟩ :: rest) n e (outΔ o g s ++ A) S w0 :=
  WL_call (l := [x]) (Δ := outΔ o g s) (A := A) hw hd (by simp only [evs, hx]) Take.left (fun w _ hΔ => outDone w o g s _ hΔ hok.hl hok.hh hok.he (by omega) hsz) (fun g' _ => h g'.1 g'.2)
end rules
end Go.PK

/- The writers of small containers: straight lines of fields. Written by a program (genenc.py). -/
namespace Go.PK
open Go.Proofs

def encFork (x : Fork) : List UInt8 := x.prev.toList ++ x.cur.toList ++ le8 x.epoch.toNat
@[simp] theorem encFork_length (x : Fork) : (encFork x).length = 16 := by simp [encFork]

theorem smallEncFork (w : World) (x : Fork) :
    Calls Try.prog 38 [aggS (forkS x)].toArray w (Gives (fun _ : Option Addr × Nat => True) (fun g => .slice g.1 16 g.2) (fun g => [.sl (.slice g.1 16 g.2) 16 (bs (encFork x)) 5 1]) [] w) := by
  refine calls_enter (fn := Try.f38) Try.func38 rfl Try.ntmps38 rfl (mem0 w) ?_
  (repeat (first | (refine WC_seq ?_) | (refine WC_region ?_)))
  (first | (refine WL_alloc rfl rfl (fun b1 => ?_)) | (refine WL_box_agg rfl rfl rfl inferInstance (fun b1 => ?_)) | (refine WL_box rfl rfl rfl rfl (fun b1 => ?_)))
  (repeat (first | (refine WC_seq ?_) | (refine WC_region ?_) | (refine WL_val rfl rfl rfl (by exact val_assign rfl) ?_)))
  (first | (refine WL_alloc rfl rfl (fun b3 => ?_)) | (refine WL_box_agg rfl rfl rfl inferInstance (fun b3 => ?_)) | (refine WL_box rfl rfl rfl rfl (fun b3 => ?_)))
  refine WL_out0 .head ?_
  (repeat (first | (refine WC_seq ?_) | (refine WC_region ?_) | (refine WL_val rfl rfl rfl (by first | exact val_fieldAddr0 rfl | exact val_slice_arr rfl) ?_)))
  refine WL_outBlk rfl rfl rfl rfl .head (bl := x.prev.toList) (by exact rfl) (by simp) (by decide) (by simp) (fun g0 => ?_)
  (repeat (first | (refine WC_seq ?_) | (refine WC_region ?_) | (refine WL_val rfl rfl rfl (by first | exact val_fieldAddr0 rfl | exact val_slice_arr rfl) ?_)))
  refine WL_outBlk rfl rfl rfl rfl .head (bl := x.cur.toList) (by exact rfl) (by simp) (by decide) (by simp) (fun g1 => ?_)
  (repeat (first | (refine WC_seq ?_) | (refine WC_region ?_) | (refine WL_val rfl rfl rfl (by first | exact val_fieldAddr0 rfl | (apply val_load_blk; exact rfl; (repeat (first | exact .head | apply Pick.tail)); exact rfl)) ?_)))
  refine WL_outU64 rfl rfl rfl rfl (by simp) (fun g2 => ?_)
  (repeat (first | (refine WC_seq ?_) | (refine WC_region ?_)))
  refine WL_outDone rfl rfl rfl (((OS.Ok.init.bytes _).bytes _).u64 _) (by simp) (by simp) (fun p c => ?_)
  have e : (((OS.init.bytes x.prev.toList).bytes x.cur.toList).u64 x.epoch.toNat).done = encFork x := by rw [OS.done_flat (by simp) (by simp)]; simp [encFork]
  rw [e]
  (repeat (first | (refine WC_seq ?_) | (refine WC_region ?_) | (refine WC_ret ?_) | (refine WL_val rfl rfl rfl (by first | exact val_move rfl | exact val_assign rfl | exact val_extract rfl rfl) ?_)))
  refine QX_ret (l := [.tmp 2]) rfl (.tmp rfl .nil) ?_
  intro w' hw'
  rw [encFork_length] at hw'
  exact gives (p, c) hw' trivial (by simp [packed]) (by repeat (first | exact Sel.nil | refine Sel.cons (by repeat (first | exact .head | apply Pick.tail | apply Put.tail)) ?_))

def encHeader (x : Header) : List UInt8 := le8 x.slot.toNat ++ le8 x.proposer.toNat ++ x.parent.toList ++ x.state.toList ++ x.body.toList
@[simp] theorem encHeader_length (x : Header) : (encHeader x).length = 112 := by simp [encHeader]

theorem smallEncHeader (w : World) (x : Header) :
    Calls Try.prog 39 [aggS (headerS x)].toArray w (Gives (fun _ : Option Addr × Nat => True) (fun g => .slice g.1 112 g.2) (fun g => [.sl (.slice g.1 112 g.2) 112 (bs (encHeader x)) 5 1]) [] w) := by
  refine calls_enter (fn := Try.f39) Try.func39 rfl Try.ntmps39 rfl (mem0 w) ?_
  (repeat (first | (refine WC_seq ?_) | (refine WC_region ?_)))
  (first | (refine WL_alloc rfl rfl (fun b1 => ?_)) | (refine WL_box_agg rfl rfl rfl inferInstance (fun b1 => ?_)) | (refine WL_box rfl rfl rfl rfl (fun b1 => ?_)))
  (repeat (first | (refine WC_seq ?_) | (refine WC_region ?_) | (refine WL_val rfl rfl rfl (by exact val_assign rfl) ?_)))
  (first | (refine WL_alloc rfl rfl (fun b3 => ?_)) | (refine WL_box_agg rfl rfl rfl inferInstance (fun b3 => ?_)) | (refine WL_box rfl rfl rfl rfl (fun b3 => ?_)))
  refine WL_out0 .head ?_
  (repeat (first | (refine WC_seq ?_) | (refine WC_region ?_) | (refine WL_val rfl rfl rfl (by first | exact val_fieldAddr0 rfl | (apply val_load_blk; exact rfl; (repeat (first | exact .head | apply Pick.tail)); exact rfl)) ?_)))
  refine WL_outU64 rfl rfl rfl rfl (by simp) (fun g0 => ?_)
  (repeat (first | (refine WC_seq ?_) | (refine WC_region ?_) | (refine WL_val rfl rfl rfl (by first | exact val_fieldAddr0 rfl | (apply val_load_blk; exact rfl; (repeat (first | exact .head | apply Pick.tail)); exact rfl)) ?_)))
  refine WL_outU64 rfl rfl rfl rfl (by simp) (fun g1 => ?_)
  (repeat (first | (refine WC_seq ?_) | (refine WC_region ?_) | (refine WL_val rfl rfl rfl (by first | exact val_fieldAddr0 rfl | exact val_slice_arr rfl) ?_)))
  refine WL_outBlk rfl rfl rfl rfl .head (bl := x.parent.toList) (by exact rfl) (by simp) (by decide) (by simp) (fun g2 => ?_)
  (repeat (first | (refine WC_seq ?_) | (refine WC_region ?_) | (refine WL_val rfl rfl rfl (by first | exact val_fieldAddr0 rfl | exact val_slice_arr rfl) ?_)))
  refine WL_outBlk rfl rfl rfl rfl .head (bl := x.state.toList) (by exact rfl) (by simp) (by decide) (by simp) (fun g3 => ?_)
  (repeat (first | (refine WC_seq ?_) | (refine WC_region ?_) | (refine WL_val rfl rfl rfl (by first | exact val_fieldAddr0 rfl | exact val_slice_arr rfl) ?_)))
  refine WL_outBlk rfl rfl rfl rfl .head (bl := x.body.toList) (by exact rfl) (by simp) (by decide) (by simp) (fun g4 => ?_)
  (repeat (first | (refine WC_seq ?_) | (refine WC_region ?_)))
  refine WL_outDone rfl rfl rfl (((((OS.Ok.init.u64 _).u64 _).bytes _).bytes _).bytes _) (by simp) (by simp) (fun p c => ?_)
  have e : (((((OS.init.u64 x.slot.toNat).u64 x.proposer.toNat).bytes x.parent.toList).bytes x.state.toList).bytes x.body.toList).done = encHeader x := by rw [OS.done_flat (by simp) (by simp)]; simp [encHeader]
  rw [e]
  (repeat (first | (refine WC_seq ?_) | (refine WC_region ?_) | (refine WC_ret ?_) | (refine WL_val rfl rfl rfl (by first | exact val_move rfl | exact val_assign rfl | exact val_extract rfl rfl) ?_)))
  refine QX_ret (l := [.tmp 2]) rfl (.tmp rfl .nil) ?_
  intro w' hw'
  rw [encHeader_length] at hw'
  exact gives (p, c) hw' trivial (by simp [packed]) (by repeat (first | exact Sel.nil | refine Sel.cons (by repeat (first | exact .head | apply Pick.tail | apply Put.tail)) ?_))

def encEth1 (x : Eth1) : List UInt8 := x.deposits.toList ++ le8 x.count.toNat ++ x.block.toList
@[simp] theorem encEth1_length (x : Eth1) : (encEth1 x).length = 72 := by simp [encEth1]

theorem smallEncEth1 (w : World) (x : Eth1) :
    Calls Try.prog 42 [aggS (eth1S x)].toArray w (Gives (fun _ : Option Addr × Nat => True) (fun g => .slice g.1 72 g.2) (fun g => [.sl (.slice g.1 72 g.2) 72 (bs (encEth1 x)) 5 1]) [] w) := by
  refine calls_enter (fn := Try.f42) Try.func42 rfl Try.ntmps42 rfl (mem0 w) ?_
  (repeat (first | (refine WC_seq ?_) | (refine WC_region ?_)))
  (first | (refine WL_alloc rfl rfl (fun b1 => ?_)) | (refine WL_box_agg rfl rfl rfl inferInstance (fun b1 => ?_)) | (refine WL_box rfl rfl rfl rfl (fun b1 => ?_)))
  (repeat (first | (refine WC_seq ?_) | (refine WC_region ?_) | (refine WL_val rfl rfl rfl (by exact val_assign rfl) ?_)))
  (first | (refine WL_alloc rfl rfl (fun b3 => ?_)) | (refine WL_box_agg rfl rfl rfl inferInstance (fun b3 => ?_)) | (refine WL_box rfl rfl rfl rfl (fun b3 => ?_)))
  refine WL_out0 .head ?_
  (repeat (first | (refine WC_seq ?_) | (refine WC_region ?_) | (refine WL_val rfl rfl rfl (by first | exact val_fieldAddr0 rfl | exact val_slice_arr rfl) ?_)))
  refine WL_outBlk rfl rfl rfl rfl .head (bl := x.deposits.toList) (by exact rfl) (by simp) (by decide) (by simp) (fun g0 => ?_)
  (repeat (first | (refine WC_seq ?_) | (refine WC_region ?_) | (refine WL_val rfl rfl rfl (by first | exact val_fieldAddr0 rfl | (apply val_load_blk; exact rfl; (repeat (first | exact .head | apply Pick.tail)); exact rfl)) ?_)))
  refine WL_outU64 rfl rfl rfl rfl (by simp) (fun g1 => ?_)
  (repeat (first | (refine WC_seq ?_) | (refine WC_region ?_) | (refine WL_val rfl rfl rfl (by first | exact val_fieldAddr0 rfl | exact val_slice_arr rfl) ?_)))
  refine WL_outBlk rfl rfl rfl rfl .head (bl := x.block.toList) (by exact rfl) (by simp) (by decide) (by simp) (fun g2 => ?_)
  (repeat (first | (refine WC_seq ?_) | (refine WC_region ?_)))
  refine WL_outDone rfl rfl rfl (((OS.Ok.init.bytes _).u64 _).bytes _) (by simp) (by simp) (fun p c => ?_)
  have e : (((OS.init.bytes x.deposits.toList).u64 x.count.toNat).bytes x.block.toList).done = encEth1 x := by rw [OS.done_flat (by simp) (by simp)]; simp [encEth1]
  rw [e]
  (repeat (first | (refine WC_seq ?_) | (refine WC_region ?_) | (refine WC_ret ?_) | (refine WL_val rfl rfl rfl (by first | exact val_move rfl | exact val_assign rfl | exact val_extract rfl rfl) ?_)))
  refine QX_ret (l := [.tmp 2]) rfl (.tmp rfl .nil) ?_
  intro w' hw'
  rw [encEth1_length] at hw'
  exact gives (p, c) hw' trivial (by simp [packed]) (by repeat (first | exact Sel.nil | refine Sel.cons (by repeat (first | exact .head | apply Pick.tail | apply Put.tail)) ?_))

def encValidator (x : Validator) : List UInt8 := x.key.toList ++ x.cred.toList ++ le8 x.eff.toNat ++ flagB x.slashed ++ le8 x.elig.toNat ++ le8 x.act.toNat ++ le8 x.exit.toNat ++ le8 x.wd.toNat
@[simp] theorem encValidator_length (x : Validator) : (encValidator x).length = 121 := by simp [encValidator]

theorem smallEncValidator (w : World) (x : Validator) :
    Calls Try.prog 43 [aggS (valS x)].toArray w (Gives (fun _ : Option Addr × Nat => True) (fun g => .slice g.1 121 g.2) (fun g => [.sl (.slice g.1 121 g.2) 121 (bs (encValidator x)) 5 1]) [] w) := by
  refine calls_enter (fn := Try.f43) Try.func43 rfl Try.ntmps43 rfl (mem0 w) ?_
  (repeat (first | (refine WC_seq ?_) | (refine WC_region ?_)))
  (first | (refine WL_alloc rfl rfl (fun b1 => ?_)) | (refine WL_box_agg rfl rfl rfl inferInstance (fun b1 => ?_)) | (refine WL_box rfl rfl rfl rfl (fun b1 => ?_)))
  (repeat (first | (refine WC_seq ?_) | (refine WC_region ?_) | (refine WL_val rfl rfl rfl (by exact val_assign rfl) ?_)))
  (first | (refine WL_alloc rfl rfl (fun b3 => ?_)) | (refine WL_box_agg rfl rfl rfl inferInstance (fun b3 => ?_)) | (refine WL_box rfl rfl rfl rfl (fun b3 => ?_)))
  refine WL_out0 .head ?_
  (repeat (first | (refine WC_seq ?_) | (refine WC_region ?_) | (refine WL_val rfl rfl rfl (by first | exact val_fieldAddr0 rfl | exact val_slice_arr rfl) ?_)))
  refine WL_outBlk rfl rfl rfl rfl .head (bl := x.key.toList) (by exact rfl) (by simp) (by decide) (by simp) (fun g0 => ?_)
  (repeat (first | (refine WC_seq ?_) | (refine WC_region ?_) | (refine WL_val rfl rfl rfl (by first | exact val_fieldAddr0 rfl | exact val_slice_arr rfl) ?_)))
  refine WL_outBlk rfl rfl rfl rfl .head (bl := x.cred.toList) (by exact rfl) (by simp) (by decide) (by simp) (fun g1 => ?_)
  (repeat (first | (refine WC_seq ?_) | (refine WC_region ?_) | (refine WL_val rfl rfl rfl (by first | exact val_fieldAddr0 rfl | (apply val_load_blk; exact rfl; (repeat (first | exact .head | apply Pick.tail)); exact rfl)) ?_)))
  refine WL_outU64 rfl rfl rfl rfl (by simp) (fun g2 => ?_)
  (repeat (first | (refine WC_seq ?_) | (refine WC_region ?_) | (refine WL_val rfl rfl rfl (by first | exact val_fieldAddr0 rfl | (apply val_load_blk; exact rfl; (repeat (first | exact .head | apply Pick.tail)); exact rfl)) ?_)))
  refine WL_outFlag rfl rfl rfl rfl (by simp) (fun g3 => ?_)
  (repeat (first | (refine WC_seq ?_) | (refine WC_region ?_) | (refine WL_val rfl rfl rfl (by first | exact val_fieldAddr0 rfl | (apply val_load_blk; exact rfl; (repeat (first | exact .head | apply Pick.tail)); exact rfl)) ?_)))
  refine WL_outU64 rfl rfl rfl rfl (by simp) (fun g4 => ?_)
  (repeat (first | (refine WC_seq ?_) | (refine WC_region ?_) | (refine WL_val rfl rfl rfl (by first | exact val_fieldAddr0 rfl | (apply val_load_blk; exact rfl; (repeat (first | exact .head | apply Pick.tail)); exact rfl)) ?_)))
  refine WL_outU64 rfl rfl rfl rfl (by simp) (fun g5 => ?_)
  (repeat (first | (refine WC_seq ?_) | (refine WC_region ?_) | (refine WL_val rfl rfl rfl (by first | exact val_fieldAddr0 rfl | (apply val_load_blk; exact rfl; (repeat (first | exact .head | apply Pick.tail)); exact rfl)) ?_)))
  refine WL_outU64 rfl rfl rfl rfl (by simp) (fun g6 => ?_)
  (repeat (first | (refine WC_seq ?_) | (refine WC_region ?_) | (refine WL_val rfl rfl rfl (by first | exact val_fieldAddr0 rfl | (apply val_load_blk; exact rfl; (repeat (first | exact .head | apply Pick.tail)); exact rfl)) ?_)))
  refine WL_outU64 rfl rfl rfl rfl (by simp) (fun g7 => ?_)
  (repeat (first | (refine WC_seq ?_) | (refine WC_region ?_)))
  refine WL_outDone rfl rfl rfl ((((((((OS.Ok.init.bytes _).bytes _).u64 _).flag _).u64 _).u64 _).u64 _).u64 _) (by simp) (by simp) (fun p c => ?_)
  have e : ((((((((OS.init.bytes x.key.toList).bytes x.cred.toList).u64 x.eff.toNat).flag x.slashed).u64 x.elig.toNat).u64 x.act.toNat).u64 x.exit.toNat).u64 x.wd.toNat).done = encValidator x := by rw [OS.done_flat (by simp) (by simp)]; simp [encValidator]
  rw [e]
  (repeat (first | (refine WC_seq ?_) | (refine WC_region ?_) | (refine WC_ret ?_) | (refine WL_val rfl rfl rfl (by first | exact val_move rfl | exact val_assign rfl | exact val_extract rfl rfl) ?_)))
  refine QX_ret (l := [.tmp 2]) rfl (.tmp rfl .nil) ?_
  intro w' hw'
  rw [encValidator_length] at hw'
  exact gives (p, c) hw' trivial (by simp [packed]) (by repeat (first | exact Sel.nil | refine Sel.cons (by repeat (first | exact .head | apply Pick.tail | apply Put.tail)) ?_))

def encCheckpoint (x : Checkpoint) : List UInt8 := le8 x.epoch.toNat ++ x.root.toList
@[simp] theorem encCheckpoint_length (x : Checkpoint) : (encCheckpoint x).length = 40 := by simp [encCheckpoint]

theorem smallEncCheckpoint (w : World) (x : Checkpoint) :
    Calls Try.prog 45 [aggS (ckS x)].toArray w (Gives (fun _ : Option Addr × Nat => True) (fun g => .slice g.1 40 g.2) (fun g => [.sl (.slice g.1 40 g.2) 40 (bs (encCheckpoint x)) 5 1]) [] w) := by
  refine calls_enter (fn := Try.f45) Try.func45 rfl Try.ntmps45 rfl (mem0 w) ?_
  (repeat (first | (refine WC_seq ?_) | (refine WC_region ?_)))
  (first | (refine WL_alloc rfl rfl (fun b1 => ?_)) | (refine WL_box_agg rfl rfl rfl inferInstance (fun b1 => ?_)) | (refine WL_box rfl rfl rfl rfl (fun b1 => ?_)))
  (repeat (first | (refine WC_seq ?_) | (refine WC_region ?_) | (refine WL_val rfl rfl rfl (by exact val_assign rfl) ?_)))
  (first | (refine WL_alloc rfl rfl (fun b3 => ?_)) | (refine WL_box_agg rfl rfl rfl inferInstance (fun b3 => ?_)) | (refine WL_box rfl rfl rfl rfl (fun b3 => ?_)))
  refine WL_out0 .head ?_
  (repeat (first | (refine WC_seq ?_) | (refine WC_region ?_) | (refine WL_val rfl rfl rfl (by first | exact val_fieldAddr0 rfl | (apply val_load_blk; exact rfl; (repeat (first | exact .head | apply Pick.tail)); exact rfl)) ?_)))
  refine WL_outU64 rfl rfl rfl rfl (by simp) (fun g0 => ?_)
  (repeat (first | (refine WC_seq ?_) | (refine WC_region ?_) | (refine WL_val rfl rfl rfl (by first | exact val_fieldAddr0 rfl | exact val_slice_arr rfl) ?_)))
  refine WL_outBlk rfl rfl rfl rfl .head (bl := x.root.toList) (by exact rfl) (by simp) (by decide) (by simp) (fun g1 => ?_)
  (repeat (first | (refine WC_seq ?_) | (refine WC_region ?_)))
  refine WL_outDone rfl rfl rfl ((OS.Ok.init.u64 _).bytes _) (by simp) (by simp) (fun p c => ?_)
  have e : ((OS.init.u64 x.epoch.toNat).bytes x.root.toList).done = encCheckpoint x := by rw [OS.done_flat (by simp) (by simp)]; simp [encCheckpoint]
  rw [e]
  (repeat (first | (refine WC_seq ?_) | (refine WC_region ?_) | (refine WC_ret ?_) | (refine WL_val rfl rfl rfl (by first | exact val_move rfl | exact val_assign rfl | exact val_extract rfl rfl) ?_)))
  refine QX_ret (l := [.tmp 2]) rfl (.tmp rfl .nil) ?_
  intro w' hw'
  rw [encCheckpoint_length] at hw'
  exact gives (p, c) hw' trivial (by simp [packed]) (by repeat (first | exact Sel.nil | refine Sel.cons (by repeat (first | exact .head | apply Pick.tail | apply Put.tail)) ?_))

end Go.PK

/- Bits as bytes (package bits): set, lay, Vector. -/
namespace Go.PK
open Go.Proofs

/-- a bit of bytes set -/
def setB (b : List UInt8) (i : Nat) : List UInt8 := b.set (i / 8) (b.getD (i / 8) 0 ||| UInt8.ofNat (2 ^ (i % 8)))
@[simp] theorem setB_length (b : List UInt8) (i : Nat) : (setB b i).length = b.length := by simp [setB]
/-- the first k bits laid -/
def layTo (b : List UInt8) (l : List Bool) (k : Nat) : List UInt8 := (List.range k).foldl (fun b i => if l.getD i false then setB b i else b) b
theorem layTo_succ (b : List UInt8) (l : List Bool) (k : Nat) : layTo b l (k + 1) = if l.getD k false then setB (layTo b l k) k else layTo b l k := by simp [layTo, List.range_succ, List.foldl_append]
@[simp] theorem layTo_length (b : List UInt8) (l : List Bool) (k : Nat) : (layTo b l k).length = b.length := by
  induction k with
  | zero => rfl
  | succ k ih => rw [layTo_succ]; split <;> simp [ih]
/-- bits as a vector -/
def bitsV (l : List Bool) : List UInt8 := layTo (List.replicate ((l.length + 7) / 8) 0) l l.length
@[simp] theorem bitsV_length (l : List Bool) : (bitsV l).length = (l.length + 7) / 8 := by simp [bitsV]

abbrev bools (l : List Bool) : List Value := l.map Value.bool

section
variable (w : World) (p : Option Addr) (c m : Nat) (b : List UInt8) (S : List Nat)

theorem bitsSet (i : Nat) (hm : Mem [.sl (.slice p m c) m (bs b) 5 1] S w w) (hb : b.length = m) (hi : i / 8 < m) (h63 : i < 9223372036854775808) :
    Calls Try.prog 73 [.slice p m c, .int .i64 i].toArray w (Gives (fun _ : Unit => True) (fun _ => .tuple #[]) (fun _ => [.sl (.slice p m c) m (bs (setB b i)) 5 1]) S w) := by
  refine calls_enter (fn := Try.f73) Try.func73 rfl Try.ntmps73 rfl hm ?_
  skip
  refine WC_slPos .head (by omega) (fun b1 h1 => ?_)
  subst h1
  (refine WC_draw1 0 rfl mixed (by kernel_rfl) ?_)
  (repeat (refine WD_p rfl rfl rfl (by exact val_move rfl) ?_))
  refine WD_p rfl rfl rfl (val_shrN (s := 3) rfl rfl (by decide)) ?_
  refine WD_p rfl rfl rfl (val_indexAddr01 rfl rfl (by omega)) ?_
  refine WD_q rfl rfl rfl (val_load_sl (v := by8 (b.getD (i / 8) 0)) rfl .head (by simp [bs, hb, hi])) ?_
  (repeat (refine WD_p rfl rfl rfl (by exact val_move rfl) ?_))
  refine WD_p rfl rfl rfl (val_and7 rfl rfl h63) ?_
  refine WD_p rfl rfl rfl (val_shlB1 rfl rfl (by omega)) ?_
  refine WD_p rfl rfl rfl (val_orB rfl rfl) ?_
  refine WD_p rfl rfl rfl (val_indexAddr01 rfl rfl (by omega)) ?_
  (refine WD_t ?_)
  refine WL_store_sl rfl rfl rfl rfl (by omega) (by simp [hb]) .head ?_
  rw [bs_set]
  (refine WL_t ?_)
  refine WD_nil ?_
  refine QX_end (l := []) rfl .nil ?_
  intro w' hw'
  exact gives () hw' trivial rfl (by repeat (first | exact Sel.nil | refine Sel.cons (by repeat (first | exact .head | apply Pick.tail | apply Put.tail)) ?_))

theorem bitsLay (l : List Bool) (v : Value) (hm : Mem [.sl (.slice p m c) m (bs b) 5 1] S w w) (hb : b.length = m) (hv : SlAt w 1 v l.length (bools l)) (hsep : Sep v (bools l) S) (hl : l.length ≤ 8 * m) (h63 : l.length < 9223372036854775807) :
    Calls Try.prog 68 [.slice p m c, v].toArray w (Gives (fun _ : Unit => True) (fun _ => .slice p m c) (fun _ => [.sl (.slice p m c) m (bs (layTo b l l.length)) 5 1]) S w) := by
  obtain ⟨pv, cv, rfl⟩ := hv.shape
  refine calls_enter (fn := Try.f68) Try.func68 rfl Try.ntmps68 rfl hm ?_
  (repeat (first | (refine WC_seq ?_) | (refine WC_block ?_) | (refine WC_region ?_) | (refine WL_val rfl rfl rfl (by first | exact val_move rfl | exact val_assign rfl | exact val_len rfl) ?_)))
  refine WC_loopS (G := Nat) (fun i => i ≤ l.length) (fun i => [(0, .slice p m c), (7, .slice pv l.length cv), (8, .int .i64 l.length), (9, .int .i64 i)])
    (fun i => [.sl (.slice p m c) m (bs (layTo b l i)) 5 1]) (fun i => l.length - i) 0 (Nat.zero_le _) ⟨rfl, rfl, rfl, rfl, trivial⟩ (by repeat (first | exact Sel.nil | refine Sel.cons (by repeat (first | exact .head | apply Pick.tail | apply Put.tail)) ?_)) ?_
  intro i hi
  (repeat (first | (refine WC_seq ?_) | (refine WC_region ?_) | (refine WL_val rfl rfl rfl (by exact val_lss rfl rfl) ?_)))
  refine WC_cond rfl (fun ht => ?_) (fun hf => ?_)
  · have hlt : i < l.length := by have := of_decide_eq_true ht; omega
    obtain ⟨bb, oo, cc, e, _, hr, _⟩ := hv.pos (by omega)
    simp only [Value.slice.injEq] at e
    obtain ⟨rfl, _, rfl⟩ := e
    (repeat (first | (refine WC_seq ?_) | (refine WC_block ?_) | (refine WC_region ?_) | (refine WC_skip ?_) | (refine WL_val rfl rfl rfl (by exact val_move rfl) ?_)))
    refine WL_val rfl rfl rfl (val_indexAddrN1 rfl rfl hlt) ?_
    refine WL_val rfl rfl rfl (val_load_at (v := .bool l[i]) rfl (Rd.old hr (rangeAt_lt hr (by intro h; simp [bools] at h; subst h; simp at hlt)) ?_) (by simp [bools, hlt])) ?_
    · rcases hsep with h | h
      · simp [bools] at h; subst h; simp at hlt
      · exact h _ (by simp [vIds])
    (repeat (first | (refine WC_seq ?_) | (refine WC_region ?_) | (refine WL_nil ?_) | (refine QX_then ?_) | (refine WL_val rfl rfl rfl (by first | exact val_move rfl | exact val_assign rfl) ?_)))
    refine WC_cond rfl (fun hx => ?_) (fun hx => ?_)
    · (repeat (first | (refine WC_region ?_) | (refine WL_val rfl rfl rfl (by exact val_move rfl) ?_)))
      refine WL_call rfl rfl rfl (by repeat (first | exact Take.nil | apply Take.cons (by repeat (first | exact .head | apply Pick.tail | apply Put.tail)))) (fun w' _ hd => bitsSet w' p c m (layTo b l i) _ i hd (by simp [hb]) (by omega) (by omega)) (fun _ _ => ?_)
      (repeat (first | (refine WC_region ?_) | (refine WL_nil ?_) | (refine WL_val rfl rfl rfl (by first | exact val_move rfl | (apply val_addI; exact rfl; exact rfl; omega; omega)) ?_)))
      refine QX_againS (i + 1) (by omega) (by omega) ⟨rfl, rfl, rfl, rfl, trivial⟩ ?_
      rw [layTo_succ, show l.getD i false = l[i] from by simp [hlt], hx, if_pos rfl]
      exact (by repeat (first | exact Sel.nil | refine Sel.cons (by repeat (first | exact .head | apply Pick.tail | apply Put.tail)) ?_))
    · (repeat (first | (refine WC_region ?_) | (refine WC_skip ?_) | (refine WL_nil ?_) | (refine WL_val rfl rfl rfl (by first | exact val_move rfl | (apply val_addI; exact rfl; exact rfl; omega; omega)) ?_)))
      refine QX_againS (i + 1) (by omega) (by omega) ⟨rfl, rfl, rfl, rfl, trivial⟩ ?_
      rw [layTo_succ, show l.getD i false = l[i] from by simp [hlt], hx, if_neg (by simp)]
      exact (by repeat (first | exact Sel.nil | refine Sel.cons (by repeat (first | exact .head | apply Pick.tail | apply Put.tail)) ?_))
  · have hi8 : i = l.length := by have := of_decide_eq_false hf; omega
    subst hi8
    (repeat (first | (refine WC_seq ?_) | (refine WC_region ?_) | (refine WC_ret ?_) | (refine WC_exit ?_) | (refine WL_val rfl rfl rfl (by first | exact val_move rfl | exact val_assign rfl) ?_)))
    refine QX_ret (l := [.tmp 4]) rfl (.tmp rfl .nil) ?_
    intro w' hw'
    exact gives () hw' trivial rfl (by repeat (first | exact Sel.nil | refine Sel.cons (by repeat (first | exact .head | apply Pick.tail | apply Put.tail)) ?_))
end

theorem bitsVector (w : World) (l : List Bool) (v : Value) (hv : SlAt w 1 v l.length (bools l)) (h63 : l.length ≤ 1000000000) :
    Calls Try.prog 44 [v].toArray w (Gives (fun _ : Option Addr × Nat => True) (fun g => .slice g.1 ((l.length + 7) / 8) g.2) (fun g => [.sl (.slice g.1 ((l.length + 7) / 8) g.2) ((l.length + 7) / 8) (bs (bitsV l)) 5 1]) [] w) := by
  obtain ⟨pv, cv, rfl⟩ := hv.shape
  refine calls_enter (fn := Try.f44) Try.func44 rfl Try.ntmps44 rfl (mem0 w) ?_
  (repeat (first | (refine WC_seq ?_) | (refine WC_region ?_) | (refine WL_val rfl rfl rfl (by first | exact val_move rfl | exact val_assign rfl | exact val_len rfl | (apply val_addI; exact rfl; exact rfl; omega; omega) | (apply val_quoI; exact rfl; exact rfl; decide; omega; omega)) ?_)))
  refine WL_make (m := (l.length + 7) / 8) rfl rfl rfl rfl (by omega) (by omega) rfl rfl (by omega) (by omega) (fun b => ?_)
  refine WL_toSl (sz := 1) (m := (l.length + 7) / 8) .head (by omega) ?_
  (repeat (refine WL_val rfl rfl rfl (by exact val_move rfl) ?_))
  have e0 : ((List.replicate ((l.length + 7) / 8) (flat [(1, [Value.int IntKind.u8 0])])).flatten) = bs (List.replicate ((l.length + 7) / 8) 0) := by
    generalize (l.length + 7) / 8 = k
    induction k with
    | zero => rfl
    | succ k ih => rw [List.replicate_succ, List.flatten_cons, ih]; rfl
  rw [e0]
  refine WL_call rfl rfl rfl (by repeat (first | exact Take.nil | apply Take.cons (by repeat (first | exact .head | apply Pick.tail | apply Put.tail)))) (fun w' hw' hd => bitsLay w' _ _ _ _ _ l _ hd (by simp) (SlV.at (SlV.old hv (.inr (by simp))) hw') (Sep.old hw' (by repeat (first | exact Take.nil | apply Take.cons (by repeat (first | exact .head | apply Pick.tail | apply Put.tail)))) hv (.inr (by simp))) (by omega) (by omega)) (fun _ _ => ?_)
  (repeat (first | (refine WC_ret ?_) | (refine WL_val rfl rfl rfl (by exact val_assign rfl) ?_)))
  refine QX_ret (l := [.tmp 2]) rfl (.tmp rfl .nil) ?_
  intro w' hw'
  exact gives (_, _) hw' trivial rfl (by repeat (first | exact Sel.nil | refine Sel.cons (by repeat (first | exact .head | apply Pick.tail | apply Put.tail)) ?_))
end Go.PK

/- The writer of committees; a writer's call as a step. -/
namespace Go.PK
open Go.Proofs

theorem OS.bytes_bytes (s : OS) (a b : List UInt8) : (s.bytes a).bytes b = s.bytes (a ++ b) := by simp [OS.bytes]
theorem OS.bytes_nil (s : OS) : s.bytes [] = s := by simp [OS.bytes]

section rules
variable {Q : Exit → Act → World → Prop} {n : Nat} {e : Env} {Γ Γ' A A' : List Chunk} {S : List Nat} {w0 : World} {ops : Array Oper} {rest : List Oper}
  {d : Nat} {ty : TypeId} {pos : String} {after : Array Edge} {gd : Option (Nat × Bool)} {x y z : Operand} {ts : Array TypeId} {o : Nat} {g : O4} {s : OS}

abbrev Writes (w : World) (k : Nat) (bl : List UInt8) : Ending → World → Prop :=
  Gives (fun _ : Option Addr × Nat => True) (fun g => .slice g.1 k g.2) (fun g => [.sl (.slice g.1 k g.2) k (bs bl) 5 1]) [] w

/-- A call that gives fresh bytes. -/
theorem WL_enc {f : FuncId} {v : Value} {k : Nat} {bl : List UInt8} [CallOk Try.prog f] (hw : wantedE ops e gd = some true) (hd : Nat.blt d n = true) (hx : ev e x = some v)
    (hspec : ∀ w, Mem Γ S w0 w → Calls Try.prog f [v].toArray w (Writes w k bl))
    (h : ∀ p c, WL Try.prog ops Q rest n ((d, .slice p k c) :: e) (.sl (.slice p k c) k (bs bl) 5 1 :: Γ) S w0) :
    WL Try.prog ops Q (⟨some d, .call ⟨.value (.func f), #[x], ts⟩, ty, pos, after, gd⟩ :: rest) n e Γ S w0 :=
  WL_call (l := [x]) (Δ := []) (A := Γ) hw hd (by simp only [evs, hx]) .nil (fun w hm _ => hspec w hm) (fun g' _ => h g'.1 g'.2)
end rules

def rows {n : Nat} (l : List (Vector UInt8 n)) : List UInt8 := l.flatMap fun r => r.toList
theorem rows_length {n : Nat} (l : List (Vector UInt8 n)) : (rows l).length = l.length * n := flatMap_length_const _ n l (fun x _ => by simp)
theorem rows_succ {n : Nat} (l : List (Vector UInt8 n)) (i : Nat) (h : i < l.length) : rows (l.take (i + 1)) = rows (l.take i) ++ l[i].toList := flatMap_take_succ _ l i h
theorem rows_take_length {n : Nat} (l : List (Vector UInt8 n)) (i : Nat) : (rows (l.take i)).length ≤ l.length * n := by
  rw [rows_length, List.length_take]; exact Nat.mul_le_mul_right _ (Nat.min_le_right _ _)

def encCommittee (x : Committee) : List UInt8 := rows x.keys.toList ++ x.sum.toList
@[simp] theorem encCommittee_length (x : Committee) : (encCommittee x).length = 432 := by simp [encCommittee, rows_length]

theorem smallEncCommittee (w : World) (x : Committee) :
    Calls Try.prog 46 [aggS (commS x)].toArray w (Writes w 432 (encCommittee x)) := by
  refine calls_enter (fn := Try.f46) Try.func46 rfl Try.ntmps46 rfl (mem0 w) ?_
  (repeat (first | (refine WC_seq ?_) | (refine WC_block ?_) | (refine WC_region ?_) | (refine WC_skip ?_) | (refine WC_ret ?_) | (refine WC_exit ?_) | (refine WL_nil ?_) | (refine QX_then ?_) | (refine QX_then_ret ?_) | (refine QX_then_exit ?_) | (refine QX_block ?_) | (refine QX_block_ret ?_) | (refine QX_block_exit ?_) | (refine QX_block_exit_ne rfl ?_) | (refine WC_cond_true rfl ?_) | (refine WC_cond_false rfl ?_) | (refine WL_off rfl rfl rfl ?_) | (refine WL_val rfl rfl rfl (by first | exact val_move rfl | exact val_assign rfl | exact val_fieldAddr0 rfl | exact val_fieldAddr_0 rfl | exact val_fieldAddr rfl | (apply val_load_blk; exact rfl; (repeat (first | exact .head | apply Pick.tail)); exact rfl) | (apply val_load_blk_agg; exact rfl; (repeat (first | exact .head | apply Pick.tail)); exact rfl) | exact val_nilCheck rfl | exact val_extract rfl rfl | exact val_len rfl | exact val_pick_true rfl rfl | exact val_pick_false rfl rfl | exact val_lss rfl rfl | exact val_leq rfl rfl | exact val_gtr rfl rfl | exact val_geq rfl rfl | exact val_eql rfl rfl | exact val_neq rfl rfl | exact val_not rfl | exact val_slice_arr rfl | (apply val_field1 inferInstance; exact rfl; exact rfl) | (apply val_field inferInstance; exact rfl; exact rfl) | (apply val_addN; exact rfl; exact rfl; omega) | (apply val_addI; exact rfl; exact rfl; omega; omega) | (apply val_mulI; exact rfl; exact rfl; omega; omega) | (apply val_quoI; exact rfl; exact rfl; decide; omega; omega) | (apply val_remI; exact rfl; exact rfl; decide; omega) | (apply val_quoU; exact rfl; exact rfl; decide; omega; omega)) ?_)))
  (first | (refine WL_alloc rfl rfl (fun b1 => ?_)) | (refine WL_box_agg rfl rfl rfl inferInstance (fun b1 => ?_)) | (refine WL_box rfl rfl rfl rfl (fun b1 => ?_)))
  (repeat (first | (refine WC_seq ?_) | (refine WC_block ?_) | (refine WC_region ?_) | (refine WC_skip ?_) | (refine WC_ret ?_) | (refine WC_exit ?_) | (refine WL_nil ?_) | (refine QX_then ?_) | (refine QX_then_ret ?_) | (refine QX_then_exit ?_) | (refine QX_block ?_) | (refine QX_block_ret ?_) | (refine QX_block_exit ?_) | (refine QX_block_exit_ne rfl ?_) | (refine WC_cond_true rfl ?_) | (refine WC_cond_false rfl ?_) | (refine WL_off rfl rfl rfl ?_) | (refine WL_val rfl rfl rfl (by first | exact val_move rfl | exact val_assign rfl | exact val_fieldAddr0 rfl | exact val_fieldAddr_0 rfl | exact val_fieldAddr rfl | (apply val_load_blk; exact rfl; (repeat (first | exact .head | apply Pick.tail)); exact rfl) | (apply val_load_blk_agg; exact rfl; (repeat (first | exact .head | apply Pick.tail)); exact rfl) | exact val_nilCheck rfl | exact val_extract rfl rfl | exact val_len rfl | exact val_pick_true rfl rfl | exact val_pick_false rfl rfl | exact val_lss rfl rfl | exact val_leq rfl rfl | exact val_gtr rfl rfl | exact val_geq rfl rfl | exact val_eql rfl rfl | exact val_neq rfl rfl | exact val_not rfl | exact val_slice_arr rfl | (apply val_field1 inferInstance; exact rfl; exact rfl) | (apply val_field inferInstance; exact rfl; exact rfl) | (apply val_addN; exact rfl; exact rfl; omega) | (apply val_addI; exact rfl; exact rfl; omega; omega) | (apply val_mulI; exact rfl; exact rfl; omega; omega) | (apply val_quoI; exact rfl; exact rfl; decide; omega; omega) | (apply val_remI; exact rfl; exact rfl; decide; omega) | (apply val_quoU; exact rfl; exact rfl; decide; omega; omega)) ?_)))
  (first | (refine WL_alloc rfl rfl (fun b3 => ?_)) | (refine WL_box_agg rfl rfl rfl inferInstance (fun b3 => ?_)) | (refine WL_box rfl rfl rfl rfl (fun b3 => ?_)))
  refine WL_out0 .head ?_
  (repeat (first | (refine WC_seq ?_) | (refine WC_block ?_) | (refine WC_region ?_) | (refine WC_skip ?_) | (refine WC_ret ?_) | (refine WC_exit ?_) | (refine WL_nil ?_) | (refine QX_then ?_) | (refine QX_then_ret ?_) | (refine QX_then_exit ?_) | (refine QX_block ?_) | (refine QX_block_ret ?_) | (refine QX_block_exit ?_) | (refine QX_block_exit_ne rfl ?_) | (refine WC_cond_true rfl ?_) | (refine WC_cond_false rfl ?_) | (refine WL_off rfl rfl rfl ?_) | (refine WL_val rfl rfl rfl (by first | exact val_move rfl | exact val_assign rfl | exact val_fieldAddr0 rfl | exact val_fieldAddr_0 rfl | exact val_fieldAddr rfl | (apply val_load_blk; exact rfl; (repeat (first | exact .head | apply Pick.tail)); exact rfl) | (apply val_load_blk_agg; exact rfl; (repeat (first | exact .head | apply Pick.tail)); exact rfl) | exact val_nilCheck rfl | exact val_extract rfl rfl | exact val_len rfl | exact val_pick_true rfl rfl | exact val_pick_false rfl rfl | exact val_lss rfl rfl | exact val_leq rfl rfl | exact val_gtr rfl rfl | exact val_geq rfl rfl | exact val_eql rfl rfl | exact val_neq rfl rfl | exact val_not rfl | exact val_slice_arr rfl | (apply val_field1 inferInstance; exact rfl; exact rfl) | (apply val_field inferInstance; exact rfl; exact rfl) | (apply val_addN; exact rfl; exact rfl; omega) | (apply val_addI; exact rfl; exact rfl; omega; omega) | (apply val_mulI; exact rfl; exact rfl; omega; omega) | (apply val_quoI; exact rfl; exact rfl; decide; omega; omega) | (apply val_remI; exact rfl; exact rfl; decide; omega) | (apply val_quoU; exact rfl; exact rfl; decide; omega; omega)) ?_)))
  refine WC_loopS (G := Nat × O4) (fun i => i.1 ≤ 8) (fun i => [(1, .pointer (some ⟨b1, 0, none⟩)), (3, .pointer (some ⟨b3, 0, none⟩)), (9, aggS [(384, rootsV x.keys)]), (10, .int .i64 i.1)])
    (fun i => outΔ b3 i.2 (OS.init.bytes (rows (x.keys.toList.take i.1))) ++ [.blk b1 (commS x) 47]) (fun i => 8 - i.1) (0, O4.none) (by decide) ⟨rfl, rfl, rfl, rfl, trivial⟩ (by repeat (first | exact Sel.nil | refine Sel.cons (by repeat (first | exact .head | apply Pick.tail | apply Put.tail)) ?_)) ?_
  intro ⟨i, g⟩ hi
  dsimp only at hi ⊢
  (repeat (first | (refine WC_seq ?_) | (refine WC_block ?_) | (refine WC_region ?_) | (refine WC_skip ?_) | (refine WC_ret ?_) | (refine WC_exit ?_) | (refine WL_nil ?_) | (refine QX_then ?_) | (refine QX_then_ret ?_) | (refine QX_then_exit ?_) | (refine QX_block ?_) | (refine QX_block_ret ?_) | (refine QX_block_exit ?_) | (refine QX_block_exit_ne rfl ?_) | (refine WC_cond_true rfl ?_) | (refine WC_cond_false rfl ?_) | (refine WL_off rfl rfl rfl ?_) | (refine WL_val rfl rfl rfl (by first | exact val_move rfl | exact val_assign rfl | exact val_fieldAddr0 rfl | exact val_fieldAddr_0 rfl | exact val_fieldAddr rfl | (apply val_load_blk; exact rfl; (repeat (first | exact .head | apply Pick.tail)); exact rfl) | (apply val_load_blk_agg; exact rfl; (repeat (first | exact .head | apply Pick.tail)); exact rfl) | exact val_nilCheck rfl | exact val_extract rfl rfl | exact val_len rfl | exact val_pick_true rfl rfl | exact val_pick_false rfl rfl | exact val_lss rfl rfl | exact val_leq rfl rfl | exact val_gtr rfl rfl | exact val_geq rfl rfl | exact val_eql rfl rfl | exact val_neq rfl rfl | exact val_not rfl | exact val_slice_arr rfl | (apply val_field1 inferInstance; exact rfl; exact rfl) | (apply val_field inferInstance; exact rfl; exact rfl) | (apply val_addN; exact rfl; exact rfl; omega) | (apply val_addI; exact rfl; exact rfl; omega; omega) | (apply val_mulI; exact rfl; exact rfl; omega; omega) | (apply val_quoI; exact rfl; exact rfl; decide; omega; omega) | (apply val_remI; exact rfl; exact rfl; decide; omega) | (apply val_quoU; exact rfl; exact rfl; decide; omega; omega)) ?_)))
  refine WC_cond rfl (fun ht => ?_) (fun hf => ?_)
  · have hlt : i < 8 := by have := of_decide_eq_true ht; omega
    have hb := rows_take_length x.keys.toList i
    simp at hb
    (repeat (first | (refine WC_seq ?_) | (refine WC_block ?_) | (refine WC_region ?_) | (refine WC_skip ?_) | (refine WC_ret ?_) | (refine WC_exit ?_) | (refine WL_nil ?_) | (refine QX_then ?_) | (refine QX_then_ret ?_) | (refine QX_then_exit ?_) | (refine QX_block ?_) | (refine QX_block_ret ?_) | (refine QX_block_exit ?_) | (refine QX_block_exit_ne rfl ?_) | (refine WC_cond_true rfl ?_) | (refine WC_cond_false rfl ?_) | (refine WL_off rfl rfl rfl ?_) | (refine WL_val rfl rfl rfl (by first | exact val_move rfl | exact val_assign rfl | exact val_fieldAddr0 rfl | exact val_fieldAddr_0 rfl | exact val_fieldAddr rfl | (apply val_load_blk; exact rfl; (repeat (first | exact .head | apply Pick.tail)); exact rfl) | (apply val_load_blk_agg; exact rfl; (repeat (first | exact .head | apply Pick.tail)); exact rfl) | exact val_nilCheck rfl | exact val_extract rfl rfl | exact val_len rfl | exact val_pick_true rfl rfl | exact val_pick_false rfl rfl | exact val_lss rfl rfl | exact val_leq rfl rfl | exact val_gtr rfl rfl | exact val_geq rfl rfl | exact val_eql rfl rfl | exact val_neq rfl rfl | exact val_not rfl | exact val_slice_arr rfl | (apply val_field1 inferInstance; exact rfl; exact rfl) | (apply val_field inferInstance; exact rfl; exact rfl) | (apply val_addN; exact rfl; exact rfl; omega) | (apply val_addI; exact rfl; exact rfl; omega; omega) | (apply val_mulI; exact rfl; exact rfl; omega; omega) | (apply val_quoI; exact rfl; exact rfl; decide; omega; omega) | (apply val_remI; exact rfl; exact rfl; decide; omega) | (apply val_quoU; exact rfl; exact rfl; decide; omega; omega)) ?_)))
    refine WL_val rfl rfl rfl (val_indexRow rfl rfl hlt (rootsV_at x.keys i hlt)) ?_
    (first | (refine WL_alloc rfl rfl (fun b5 => ?_)) | (refine WL_box_agg rfl rfl rfl inferInstance (fun b5 => ?_)) | (refine WL_box rfl rfl rfl rfl (fun b5 => ?_)))
    (first | (refine WL_store rfl rfl rfl rfl (by repeat (first | exact .head | apply Pick.tail | apply Put.tail)) (by repeat (first | exact PutSeg.one | apply PutSeg.skip | apply PutSeg.next | exact PutSeg.inner rfl)) ?_) | (refine WL_store_agg rfl rfl rfl (by repeat (first | exact .head | apply Pick.tail | apply Put.tail)) (by repeat (first | exact PutSeg.one | apply PutSeg.skip | apply PutSeg.next | exact PutSeg.inner rfl)) ?_))
    refine WL_mid ?_
    (repeat (first | (refine WC_seq ?_) | (refine WC_block ?_) | (refine WC_region ?_) | (refine WC_skip ?_) | (refine WC_ret ?_) | (refine WC_exit ?_) | (refine WL_nil ?_) | (refine QX_then ?_) | (refine QX_then_ret ?_) | (refine QX_then_exit ?_) | (refine QX_block ?_) | (refine QX_block_ret ?_) | (refine QX_block_exit ?_) | (refine QX_block_exit_ne rfl ?_) | (refine WC_cond_true rfl ?_) | (refine WC_cond_false rfl ?_) | (refine WL_off rfl rfl rfl ?_) | (refine WL_val rfl rfl rfl (by first | exact val_move rfl | exact val_assign rfl | exact val_fieldAddr0 rfl | exact val_fieldAddr_0 rfl | exact val_fieldAddr rfl | (apply val_load_blk; exact rfl; (repeat (first | exact .head | apply Pick.tail)); exact rfl) | (apply val_load_blk_agg; exact rfl; (repeat (first | exact .head | apply Pick.tail)); exact rfl) | exact val_nilCheck rfl | exact val_extract rfl rfl | exact val_len rfl | exact val_pick_true rfl rfl | exact val_pick_false rfl rfl | exact val_lss rfl rfl | exact val_leq rfl rfl | exact val_gtr rfl rfl | exact val_geq rfl rfl | exact val_eql rfl rfl | exact val_neq rfl rfl | exact val_not rfl | exact val_slice_arr rfl | (apply val_field1 inferInstance; exact rfl; exact rfl) | (apply val_field inferInstance; exact rfl; exact rfl) | (apply val_addN; exact rfl; exact rfl; omega) | (apply val_addI; exact rfl; exact rfl; omega; omega) | (apply val_mulI; exact rfl; exact rfl; omega; omega) | (apply val_quoI; exact rfl; exact rfl; decide; omega; omega) | (apply val_remI; exact rfl; exact rfl; decide; omega) | (apply val_quoU; exact rfl; exact rfl; decide; omega; omega)) ?_)))
    refine WL_outBlk rfl rfl rfl rfl .head (bl := x.keys[i].toList) (by exact rfl) (by simp) (by decide) (by simp; omega) (fun g2 => ?_)
    rw [OS.bytes_bytes, show x.keys[i].toList = (x.keys.toList[i]'(by simpa using hlt)).toList from by simp, ← rows_succ _ i (by simpa using hlt)]
    (repeat (first | (refine WC_seq ?_) | (refine WC_block ?_) | (refine WC_region ?_) | (refine WC_skip ?_) | (refine WC_ret ?_) | (refine WC_exit ?_) | (refine WL_nil ?_) | (refine QX_then ?_) | (refine QX_then_ret ?_) | (refine QX_then_exit ?_) | (refine QX_block ?_) | (refine QX_block_ret ?_) | (refine QX_block_exit ?_) | (refine QX_block_exit_ne rfl ?_) | (refine WC_cond_true rfl ?_) | (refine WC_cond_false rfl ?_) | (refine WL_off rfl rfl rfl ?_) | (refine WL_val rfl rfl rfl (by first | exact val_move rfl | exact val_assign rfl | exact val_fieldAddr0 rfl | exact val_fieldAddr_0 rfl | exact val_fieldAddr rfl | (apply val_load_blk; exact rfl; (repeat (first | exact .head | apply Pick.tail)); exact rfl) | (apply val_load_blk_agg; exact rfl; (repeat (first | exact .head | apply Pick.tail)); exact rfl) | exact val_nilCheck rfl | exact val_extract rfl rfl | exact val_len rfl | exact val_pick_true rfl rfl | exact val_pick_false rfl rfl | exact val_lss rfl rfl | exact val_leq rfl rfl | exact val_gtr rfl rfl | exact val_geq rfl rfl | exact val_eql rfl rfl | exact val_neq rfl rfl | exact val_not rfl | exact val_slice_arr rfl | (apply val_field1 inferInstance; exact rfl; exact rfl) | (apply val_field inferInstance; exact rfl; exact rfl) | (apply val_addN; exact rfl; exact rfl; omega) | (apply val_addI; exact rfl; exact rfl; omega; omega) | (apply val_mulI; exact rfl; exact rfl; omega; omega) | (apply val_quoI; exact rfl; exact rfl; decide; omega; omega) | (apply val_remI; exact rfl; exact rfl; decide; omega) | (apply val_quoU; exact rfl; exact rfl; decide; omega; omega)) ?_)))
    exact QX_againS (i + 1, g2) (by simp; omega) (by simp; omega) ⟨rfl, rfl, rfl, rfl, trivial⟩ (by repeat (first | exact Sel.nil | refine Sel.cons (by repeat (first | exact .head | apply Pick.tail | apply Put.tail)) ?_))
  · have hi8 : i = 8 := by have := of_decide_eq_false hf; omega
    subst hi8
    rw [show x.keys.toList.take 8 = x.keys.toList from List.take_of_length_le (by simp)]
    (repeat (first | (refine WC_seq ?_) | (refine WC_block ?_) | (refine WC_region ?_) | (refine WC_skip ?_) | (refine WC_ret ?_) | (refine WC_exit ?_) | (refine WL_nil ?_) | (refine QX_then ?_) | (refine QX_then_ret ?_) | (refine QX_then_exit ?_) | (refine QX_block ?_) | (refine QX_block_ret ?_) | (refine QX_block_exit ?_) | (refine QX_block_exit_ne rfl ?_) | (refine WC_cond_true rfl ?_) | (refine WC_cond_false rfl ?_) | (refine WL_off rfl rfl rfl ?_) | (refine WL_val rfl rfl rfl (by first | exact val_move rfl | exact val_assign rfl | exact val_fieldAddr0 rfl | exact val_fieldAddr_0 rfl | exact val_fieldAddr rfl | (apply val_load_blk; exact rfl; (repeat (first | exact .head | apply Pick.tail)); exact rfl) | (apply val_load_blk_agg; exact rfl; (repeat (first | exact .head | apply Pick.tail)); exact rfl) | exact val_nilCheck rfl | exact val_extract rfl rfl | exact val_len rfl | exact val_pick_true rfl rfl | exact val_pick_false rfl rfl | exact val_lss rfl rfl | exact val_leq rfl rfl | exact val_gtr rfl rfl | exact val_geq rfl rfl | exact val_eql rfl rfl | exact val_neq rfl rfl | exact val_not rfl | exact val_slice_arr rfl | (apply val_field1 inferInstance; exact rfl; exact rfl) | (apply val_field inferInstance; exact rfl; exact rfl) | (apply val_addN; exact rfl; exact rfl; omega) | (apply val_addI; exact rfl; exact rfl; omega; omega) | (apply val_mulI; exact rfl; exact rfl; omega; omega) | (apply val_quoI; exact rfl; exact rfl; decide; omega; omega) | (apply val_remI; exact rfl; exact rfl; decide; omega) | (apply val_quoU; exact rfl; exact rfl; decide; omega; omega)) ?_)))
    refine WL_outBlk rfl rfl rfl rfl .head (bl := x.sum.toList) (by exact rfl) (by simp) (by decide) (by simp [rows_length]) (fun g3 => ?_)
    (repeat (first | (refine WC_seq ?_) | (refine WC_block ?_) | (refine WC_region ?_) | (refine WC_skip ?_) | (refine WC_ret ?_) | (refine WC_exit ?_) | (refine WL_nil ?_) | (refine QX_then ?_) | (refine QX_then_ret ?_) | (refine QX_then_exit ?_) | (refine QX_block ?_) | (refine QX_block_ret ?_) | (refine QX_block_exit ?_) | (refine QX_block_exit_ne rfl ?_) | (refine WC_cond_true rfl ?_) | (refine WC_cond_false rfl ?_) | (refine WL_off rfl rfl rfl ?_) | (refine WL_val rfl rfl rfl (by first | exact val_move rfl | exact val_assign rfl | exact val_fieldAddr0 rfl | exact val_fieldAddr_0 rfl | exact val_fieldAddr rfl | (apply val_load_blk; exact rfl; (repeat (first | exact .head | apply Pick.tail)); exact rfl) | (apply val_load_blk_agg; exact rfl; (repeat (first | exact .head | apply Pick.tail)); exact rfl) | exact val_nilCheck rfl | exact val_extract rfl rfl | exact val_len rfl | exact val_pick_true rfl rfl | exact val_pick_false rfl rfl | exact val_lss rfl rfl | exact val_leq rfl rfl | exact val_gtr rfl rfl | exact val_geq rfl rfl | exact val_eql rfl rfl | exact val_neq rfl rfl | exact val_not rfl | exact val_slice_arr rfl | (apply val_field1 inferInstance; exact rfl; exact rfl) | (apply val_field inferInstance; exact rfl; exact rfl) | (apply val_addN; exact rfl; exact rfl; omega) | (apply val_addI; exact rfl; exact rfl; omega; omega) | (apply val_mulI; exact rfl; exact rfl; omega; omega) | (apply val_quoI; exact rfl; exact rfl; decide; omega; omega) | (apply val_remI; exact rfl; exact rfl; decide; omega) | (apply val_quoU; exact rfl; exact rfl; decide; omega; omega)) ?_)))
    refine WL_outDone rfl rfl rfl ((OS.Ok.init.bytes _).bytes _) (by simp) (by simp [rows_length]) (fun p c => ?_)
    have e : ((OS.init.bytes (rows x.keys.toList)).bytes x.sum.toList).done = encCommittee x := by rw [OS.done_flat (by simp) (by simp)]; simp [encCommittee]
    rw [e]
    (repeat (first | (refine WC_seq ?_) | (refine WC_block ?_) | (refine WC_region ?_) | (refine WC_skip ?_) | (refine WC_ret ?_) | (refine WC_exit ?_) | (refine WL_nil ?_) | (refine QX_then ?_) | (refine QX_then_ret ?_) | (refine QX_then_exit ?_) | (refine QX_block ?_) | (refine QX_block_ret ?_) | (refine QX_block_exit ?_) | (refine QX_block_exit_ne rfl ?_) | (refine WC_cond_true rfl ?_) | (refine WC_cond_false rfl ?_) | (refine WL_off rfl rfl rfl ?_) | (refine WL_val rfl rfl rfl (by first | exact val_move rfl | exact val_assign rfl | exact val_fieldAddr0 rfl | exact val_fieldAddr_0 rfl | exact val_fieldAddr rfl | (apply val_load_blk; exact rfl; (repeat (first | exact .head | apply Pick.tail)); exact rfl) | (apply val_load_blk_agg; exact rfl; (repeat (first | exact .head | apply Pick.tail)); exact rfl) | exact val_nilCheck rfl | exact val_extract rfl rfl | exact val_len rfl | exact val_pick_true rfl rfl | exact val_pick_false rfl rfl | exact val_lss rfl rfl | exact val_leq rfl rfl | exact val_gtr rfl rfl | exact val_geq rfl rfl | exact val_eql rfl rfl | exact val_neq rfl rfl | exact val_not rfl | exact val_slice_arr rfl | (apply val_field1 inferInstance; exact rfl; exact rfl) | (apply val_field inferInstance; exact rfl; exact rfl) | (apply val_addN; exact rfl; exact rfl; omega) | (apply val_addI; exact rfl; exact rfl; omega; omega) | (apply val_mulI; exact rfl; exact rfl; omega; omega) | (apply val_quoI; exact rfl; exact rfl; decide; omega; omega) | (apply val_remI; exact rfl; exact rfl; decide; omega) | (apply val_quoU; exact rfl; exact rfl; decide; omega; omega)) ?_)))
    refine QX_ret (l := [.tmp 2]) rfl (.tmp rfl .nil) ?_
    intro w' hw'
    rw [encCommittee_length] at hw'
    exact gives (p, c) hw' trivial (by simp [packed]) (by repeat (first | exact Sel.nil | refine Sel.cons (by repeat (first | exact .head | apply Pick.tail | apply Put.tail)) ?_))
end Go.PK

/- The writer of states, in three parts. Written by a program (genst.py). -/
namespace Go.PK
open Go.Proofs

def OS.failIf (s : OS) (b : Bool) (e : Int) : OS := if b then s.fail e else s
@[simp] theorem OS.failIf_head (s : OS) (b : Bool) (e : Int) : (s.failIf b e).head = s.head := by cases b <;> rfl
@[simp] theorem OS.failIf_rest (s : OS) (b : Bool) (e : Int) : (s.failIf b e).rest = s.rest := by cases b <;> rfl
@[simp] theorem OS.failIf_holes (s : OS) (b : Bool) (e : Int) : (s.failIf b e).holes = s.holes := by cases b <;> rfl
@[simp] theorem OS.failIf_ends (s : OS) (b : Bool) (e : Int) : (s.failIf b e).ends = s.ends := by cases b <;> rfl
theorem flatMap_take_le {α β : Type} (f : α → List β) (n : Nat) (l : List α) (i : Nat) (h : ∀ x, (f x).length = n) : ((l.take i).flatMap f).length ≤ l.length * n := by
  rw [flatMap_length_const f n _ (fun x _ => h x), List.length_take]; exact Nat.mul_le_mul_right _ (Nat.min_le_right _ _)
/-- The lists are no longer than any machine holds. -/
structure StateD.Small (x : StateD) : Prop where
  history : x.history.length ≤ 1048576
  votes : x.votes.length ≤ 1048576
  validators : x.validators.length ≤ 1048576
  balances : x.balances.length ≤ 1048576
  previous : x.previous.length ≤ 1048576
  current : x.current.length ≤ 1048576
  scores : x.scores.length ≤ 1048576

end Go.PK

/- The writer of states, in three parts. Written by a program (genst.py). -/
namespace Go.PK
open Go.Proofs

/-- what encState1 writes -/
def st1 (x : StateD) (s : OS) : OS := (((((((((((((((s.u64 x.genesis.toNat).bytes x.groot.toList).u64 x.slot.toNat).bytes (encFork x.fork)).bytes (encHeader x.header)).bytes (rows x.blockRoots.toList)).bytes (rows x.stateRoots.toList)).failIf (decide (1024 < x.history.length)) 6).later (x.history.flatMap (fun r : Root => r.toList)) 0).bytes (encEth1 x.eth1)).failIf (decide (8 < x.votes.length)) 6).later (x.votes.flatMap encEth1) 0).u64 x.deposits.toNat).failIf (decide (65536 < x.validators.length)) 6).later (x.validators.flatMap encValidator) 0)

set_option maxHeartbeats 4000000 in
theorem encState1 (w : World) (o xb : Nat) (g : O4) (s : OS) (x : StateD) (a : Addrs) (S : List Nat) (hm : Mem (outΔ o g s ++ [.blk xb (stateS x a) 49]) S w w) (hL : ListsAt w S x a) (hz : x.Small)
    (h1 : s.head.length ≤ 10000) (h2 : s.rest.length ≤ 10000000000) (h3 : s.holes.length ≤ 100) (h4 : s.ends.length ≤ 100) :
    Calls Try.prog 18 [.pointer (some ⟨o, 0, none⟩), .pointer (some ⟨xb, 0, none⟩)].toArray w (Gives (fun _ : O4 => True) (fun _ => .tuple #[]) (fun g => outΔ o g (st1 x s) ++ [.blk xb (stateS x a) 49]) S w) := by
  obtain ⟨z1, z2, z3, z4, z5, z6, z7⟩ := hz
  refine calls_enter (fn := Try.f18) Try.func18 rfl Try.ntmps18 rfl hm ?_
  have k0 : s.head.length ≤ 10000 ∧ s.rest.length ≤ 10000000000 ∧ s.holes.length ≤ 100 ∧ s.ends.length ≤ 100 := ⟨h1, h2, h3, h4⟩
  (repeat (first | (refine WC_seq ?_) | (refine WC_region ?_) | (refine WL_val rfl rfl rfl (by first | exact val_move rfl | exact val_fieldAddr0 rfl | (apply val_load_blk; exact rfl; (repeat (first | exact .head | apply Pick.tail)); exact rfl) | exact val_nilCheck rfl) ?_)))
  refine WL_outU64 rfl rfl rfl rfl (by have := k0; omega) (fun g => ?_)
  have k1 : (s.u64 x.genesis.toNat).head.length ≤ 10008 ∧ (s.u64 x.genesis.toNat).rest.length ≤ 10000000000 ∧ (s.u64 x.genesis.toNat).holes.length ≤ 100 ∧ (s.u64 x.genesis.toNat).ends.length ≤ 100 := by have := k0; simp; omega
  generalize hs1 : (s.u64 x.genesis.toNat) = s1 at k1 ⊢
  (repeat (first | (refine WC_seq ?_) | (refine WC_region ?_) | (refine WL_val rfl rfl rfl (by first | exact val_move rfl | exact val_fieldAddr0 rfl | exact val_nilCheck rfl | exact val_slice_arr rfl) ?_)))
  refine WL_outBlk rfl rfl rfl rfl .head (bl := x.groot.toList) (by exact rfl) (by simp) (by decide) (by have := k1; omega) (fun g => ?_)
  have k2 : (s1.bytes x.groot.toList).head.length ≤ 10040 ∧ (s1.bytes x.groot.toList).rest.length ≤ 10000000000 ∧ (s1.bytes x.groot.toList).holes.length ≤ 100 ∧ (s1.bytes x.groot.toList).ends.length ≤ 100 := by have := k1; simp; omega
  generalize hs2 : (s1.bytes x.groot.toList) = s2 at k2 ⊢
  (repeat (first | (refine WC_seq ?_) | (refine WC_region ?_) | (refine WL_val rfl rfl rfl (by first | exact val_move rfl | exact val_fieldAddr0 rfl | (apply val_load_blk; exact rfl; (repeat (first | exact .head | apply Pick.tail)); exact rfl) | exact val_nilCheck rfl) ?_)))
  refine WL_outU64 rfl rfl rfl rfl (by have := k2; omega) (fun g => ?_)
  have k3 : (s2.u64 x.slot.toNat).head.length ≤ 10048 ∧ (s2.u64 x.slot.toNat).rest.length ≤ 10000000000 ∧ (s2.u64 x.slot.toNat).holes.length ≤ 100 ∧ (s2.u64 x.slot.toNat).ends.length ≤ 100 := by have := k2; simp; omega
  generalize hs3 : (s2.u64 x.slot.toNat) = s3 at k3 ⊢
  (repeat (first | (refine WC_seq ?_) | (refine WC_region ?_) | (refine WL_val rfl rfl rfl (by first | exact val_move rfl | exact val_fieldAddr0 rfl | (apply val_load_blk_agg; exact rfl; (repeat (first | exact .head | apply Pick.tail)); exact rfl) | exact val_nilCheck rfl) ?_)))
  refine WL_enc rfl rfl rfl (fun w _ => smallEncFork w x.fork) (fun p c => ?_)
  refine WL_mid ?_
  skip
  refine WL_outSl rfl rfl rfl rfl .head (by simp) (by have := k3; omega) (fun g => ?_)
  have k4 : (s3.bytes (encFork x.fork)).head.length ≤ 10064 ∧ (s3.bytes (encFork x.fork)).rest.length ≤ 10000000000 ∧ (s3.bytes (encFork x.fork)).holes.length ≤ 100 ∧ (s3.bytes (encFork x.fork)).ends.length ≤ 100 := by have := k3; simp; omega
  generalize hs4 : (s3.bytes (encFork x.fork)) = s4 at k4 ⊢
  (repeat (first | (refine WC_seq ?_) | (refine WC_region ?_) | (refine WL_val rfl rfl rfl (by first | exact val_move rfl | exact val_fieldAddr0 rfl | (apply val_load_blk_agg; exact rfl; (repeat (first | exact .head | apply Pick.tail)); exact rfl) | exact val_nilCheck rfl) ?_)))
  refine WL_enc rfl rfl rfl (fun w _ => smallEncHeader w x.header) (fun p c => ?_)
  refine WL_mid ?_
  skip
  refine WL_outSl rfl rfl rfl rfl .head (by simp) (by have := k4; omega) (fun g => ?_)
  have k5 : (s4.bytes (encHeader x.header)).head.length ≤ 10176 ∧ (s4.bytes (encHeader x.header)).rest.length ≤ 10000000000 ∧ (s4.bytes (encHeader x.header)).holes.length ≤ 100 ∧ (s4.bytes (encHeader x.header)).ends.length ≤ 100 := by have := k4; simp; omega
  generalize hs5 : (s4.bytes (encHeader x.header)) = s5 at k5 ⊢
  (repeat (first | (refine WC_seq ?_) | (refine WC_block ?_) | (refine WC_region ?_) | (refine WL_val rfl rfl rfl (by first | exact val_move rfl | exact val_fieldAddr0 rfl | (apply val_load_blk_agg; exact rfl; (repeat (first | exact .head | apply Pick.tail)); exact rfl) | exact val_nilCheck rfl) ?_)))
  refine WC_loopS (G := Nat × O4) (fun i => i.1 ≤ 8) (fun i => [(0, .pointer (some ⟨o, 0, none⟩)), (1, .pointer (some ⟨xb, 0, none⟩)), (52, aggS [(256, rootsV x.blockRoots)]), (53, .int .i64 i.1)]) (fun i => outΔ o i.2 (s5.bytes (rows (x.blockRoots.toList.take i.1))) ++ [.blk xb (stateS x a) 49]) (fun i => 8 - i.1) (0, g) (Nat.zero_le _) ⟨rfl, rfl, rfl, rfl, trivial⟩ (by rw [show s5.bytes (rows (x.blockRoots.toList.take (0, g).1)) = s5 from OS.bytes_nil _]; exact (by repeat (first | exact Sel.nil | refine Sel.cons (by repeat (first | exact .head | apply Pick.tail | apply Put.tail)) ?_))) ?_
  clear g
  intro ⟨i, g⟩ hi
  dsimp only at hi ⊢
  (repeat (first | (refine WC_seq ?_) | (refine WC_region ?_) | (refine WL_val rfl rfl rfl (by exact val_lss rfl rfl) ?_)))
  refine WC_cond rfl (fun ht => ?_) (fun hf => ?_)
  · have hlt : i < 8 := by have := of_decide_eq_true ht; omega
    have hb := rows_take_length x.blockRoots.toList i
    simp at hb
    (repeat (first | (refine WC_seq ?_) | (refine WC_block ?_) | (refine WC_region ?_) | (refine WC_skip ?_)))
    refine WL_val rfl rfl rfl (val_indexRow rfl rfl hlt (rootsV_at x.blockRoots i hlt)) ?_
    (first | (refine WL_alloc rfl rfl (fun b5 => ?_)) | (refine WL_box_agg rfl rfl rfl inferInstance (fun b5 => ?_)) | (refine WL_box rfl rfl rfl rfl (fun b5 => ?_)))
    (first | (refine WL_store rfl rfl rfl rfl (by repeat (first | exact .head | apply Pick.tail | apply Put.tail)) (by repeat (first | exact PutSeg.one | apply PutSeg.skip | apply PutSeg.next | exact PutSeg.inner rfl)) ?_) | (refine WL_store_agg rfl rfl rfl (by repeat (first | exact .head | apply Pick.tail | apply Put.tail)) (by repeat (first | exact PutSeg.one | apply PutSeg.skip | apply PutSeg.next | exact PutSeg.inner rfl)) ?_))
    refine WL_mid ?_
    (repeat (first | (refine WC_region ?_) | (refine WL_val rfl rfl rfl (by first | exact val_move rfl | exact val_slice_arr rfl) ?_)))
    refine WL_outBlk rfl rfl rfl rfl .head (bl := x.blockRoots[i].toList) (by exact rfl) (by simp) (by decide) (by have := k5; simp; omega) (fun g2 => ?_)
    rw [OS.bytes_bytes, show x.blockRoots[i].toList = (x.blockRoots.toList[i]'(by simpa using hlt)).toList from by simp, ← rows_succ _ i (by simpa using hlt)]
    (repeat (first | (refine WC_region ?_) | (refine WL_nil ?_) | (refine WL_val rfl rfl rfl (by first | exact val_move rfl | (apply val_addI; exact rfl; exact rfl; omega; omega)) ?_)))
    exact QX_againS (i + 1, g2) (by simp; omega) (by simp; omega) ⟨rfl, rfl, rfl, rfl, trivial⟩ (by repeat (first | exact Sel.nil | refine Sel.cons (by repeat (first | exact .head | apply Pick.tail | apply Put.tail)) ?_))
  have hi8 : i = 8 := by have := of_decide_eq_false hf; omega
  subst hi8
  clear hf hi
  rw [show x.blockRoots.toList.take 8 = x.blockRoots.toList from List.take_of_length_le (by simp)]
  have k6 : (s5.bytes (rows x.blockRoots.toList)).head.length ≤ 10432 ∧ (s5.bytes (rows x.blockRoots.toList)).rest.length ≤ 10000000000 ∧ (s5.bytes (rows x.blockRoots.toList)).holes.length ≤ 100 ∧ (s5.bytes (rows x.blockRoots.toList)).ends.length ≤ 100 := by have := k5; simp [rows_length]; omega
  generalize hs6 : (s5.bytes (rows x.blockRoots.toList)) = s6 at k6 ⊢
  (repeat (first | (refine WC_seq ?_) | (refine WC_block ?_) | (refine WC_region ?_) | (refine WC_exit ?_) | (refine WL_val rfl rfl rfl (by first | exact val_move rfl | exact val_fieldAddr0 rfl | (apply val_load_blk_agg; exact rfl; (repeat (first | exact .head | apply Pick.tail)); exact rfl) | exact val_nilCheck rfl) ?_)))
  refine WC_loopS (G := Nat × O4) (fun i => i.1 ≤ 8) (fun i => [(0, .pointer (some ⟨o, 0, none⟩)), (1, .pointer (some ⟨xb, 0, none⟩)), (63, aggS [(256, rootsV x.stateRoots)]), (64, .int .i64 i.1)]) (fun i => outΔ o i.2 (s6.bytes (rows (x.stateRoots.toList.take i.1))) ++ [.blk xb (stateS x a) 49]) (fun i => 8 - i.1) (0, g) (Nat.zero_le _) ⟨rfl, rfl, rfl, rfl, trivial⟩ (by rw [show s6.bytes (rows (x.stateRoots.toList.take (0, g).1)) = s6 from OS.bytes_nil _]; exact (by repeat (first | exact Sel.nil | refine Sel.cons (by repeat (first | exact .head | apply Pick.tail | apply Put.tail)) ?_))) ?_
  clear g
  intro ⟨i, g⟩ hi
  dsimp only at hi ⊢
  (repeat (first | (refine WC_seq ?_) | (refine WC_region ?_) | (refine WL_val rfl rfl rfl (by exact val_lss rfl rfl) ?_)))
  refine WC_cond rfl (fun ht => ?_) (fun hf => ?_)
  · have hlt : i < 8 := by have := of_decide_eq_true ht; omega
    have hb := rows_take_length x.stateRoots.toList i
    simp at hb
    (repeat (first | (refine WC_seq ?_) | (refine WC_block ?_) | (refine WC_region ?_) | (refine WC_skip ?_)))
    refine WL_val rfl rfl rfl (val_indexRow rfl rfl hlt (rootsV_at x.stateRoots i hlt)) ?_
    (first | (refine WL_alloc rfl rfl (fun b5 => ?_)) | (refine WL_box_agg rfl rfl rfl inferInstance (fun b5 => ?_)) | (refine WL_box rfl rfl rfl rfl (fun b5 => ?_)))
    (first | (refine WL_store rfl rfl rfl rfl (by repeat (first | exact .head | apply Pick.tail | apply Put.tail)) (by repeat (first | exact PutSeg.one | apply PutSeg.skip | apply PutSeg.next | exact PutSeg.inner rfl)) ?_) | (refine WL_store_agg rfl rfl rfl (by repeat (first | exact .head | apply Pick.tail | apply Put.tail)) (by repeat (first | exact PutSeg.one | apply PutSeg.skip | apply PutSeg.next | exact PutSeg.inner rfl)) ?_))
    refine WL_mid ?_
    (repeat (first | (refine WC_region ?_) | (refine WL_val rfl rfl rfl (by first | exact val_move rfl | exact val_slice_arr rfl) ?_)))
    refine WL_outBlk rfl rfl rfl rfl .head (bl := x.stateRoots[i].toList) (by exact rfl) (by simp) (by decide) (by have := k6; simp; omega) (fun g2 => ?_)
    rw [OS.bytes_bytes, show x.stateRoots[i].toList = (x.stateRoots.toList[i]'(by simpa using hlt)).toList from by simp, ← rows_succ _ i (by simpa using hlt)]
    (repeat (first | (refine WC_region ?_) | (refine WL_nil ?_) | (refine WL_val rfl rfl rfl (by first | exact val_move rfl | (apply val_addI; exact rfl; exact rfl; omega; omega)) ?_)))
    exact QX_againS (i + 1, g2) (by simp; omega) (by simp; omega) ⟨rfl, rfl, rfl, rfl, trivial⟩ (by repeat (first | exact Sel.nil | refine Sel.cons (by repeat (first | exact .head | apply Pick.tail | apply Put.tail)) ?_))
  have hi8 : i = 8 := by have := of_decide_eq_false hf; omega
  subst hi8
  clear hf hi
  rw [show x.stateRoots.toList.take 8 = x.stateRoots.toList from List.take_of_length_le (by simp)]
  have k7 : (s6.bytes (rows x.stateRoots.toList)).head.length ≤ 10688 ∧ (s6.bytes (rows x.stateRoots.toList)).rest.length ≤ 10000000000 ∧ (s6.bytes (rows x.stateRoots.toList)).holes.length ≤ 100 ∧ (s6.bytes (rows x.stateRoots.toList)).ends.length ≤ 100 := by have := k6; simp [rows_length]; omega
  generalize hs7 : (s6.bytes (rows x.stateRoots.toList)) = s7 at k7 ⊢
  (repeat (first | (refine WC_seq ?_) | (refine WC_region ?_) | (refine WC_exit ?_) | (refine WL_nil ?_) | (refine QX_then ?_) | (refine WL_val rfl rfl rfl (by first | exact val_move rfl | exact val_fieldAddr0 rfl | (apply val_load_blk; exact rfl; (repeat (first | exact .head | apply Pick.tail)); exact rfl) | exact val_nilCheck rfl | exact val_len rfl | exact val_gtr rfl rfl) ?_)))
  refine WC_cut (G := O4) (fun _ => True) (fun _ => [(0, .pointer (some ⟨o, 0, none⟩)), (1, .pointer (some ⟨xb, 0, none⟩))]) (fun g => outΔ o g (s7.failIf (decide (1024 < x.history.length)) 6) ++ [.blk xb (stateS x a) 49]) ?_ (fun g _ => ?_)
  · refine WC_cond rfl (fun ht => ?_) (fun hf => ?_)
    · have hd : 1024 < x.history.length := by have := of_decide_eq_true ht; omega
      have ee : s7.failIf (decide (1024 < x.history.length)) 6 = s7.fail 6 := by simp [OS.failIf, hd]
      (repeat (first | (refine WC_region ?_) | (refine WL_val rfl rfl rfl (by exact val_move rfl) ?_)))
      refine WL_outFail rfl rfl rfl rfl (fun g2 => ?_)
      (repeat (refine WL_nil ?_))
      rw [← ee]
      exact QX_join g2 trivial ⟨rfl, rfl, trivial⟩ (by repeat (first | exact Sel.nil | refine Sel.cons (by repeat (first | exact .head | apply Pick.tail | apply Put.tail)) ?_))
    · have hd : ¬ 1024 < x.history.length := by have := of_decide_eq_false hf; omega
      have ee : s7.failIf (decide (1024 < x.history.length)) 6 = s7 := by simp [OS.failIf, hd]
      (repeat (refine WC_skip ?_))
      refine QX_join g trivial ⟨rfl, rfl, trivial⟩ ?_
      rw [ee]
      exact (by repeat (first | exact Sel.nil | refine Sel.cons (by repeat (first | exact .head | apply Pick.tail | apply Put.tail)) ?_))
  have k8 : (s7.failIf (decide (1024 < x.history.length)) 6).head.length ≤ 10688 ∧ (s7.failIf (decide (1024 < x.history.length)) 6).rest.length ≤ 10000000000 ∧ (s7.failIf (decide (1024 < x.history.length)) 6).holes.length ≤ 100 ∧ (s7.failIf (decide (1024 < x.history.length)) 6).ends.length ≤ 100 := by have := k7; simp; omega
  generalize hs8 : (s7.failIf (decide (1024 < x.history.length)) 6) = s8 at k8 ⊢
  (repeat (first | (refine WC_seq ?_) | (refine WC_region ?_)))
  (first | (refine WL_alloc rfl rfl (fun bl => ?_)) | (refine WL_box_agg rfl rfl rfl inferInstance (fun bl => ?_)) | (refine WL_box rfl rfl rfl rfl (fun bl => ?_)))
  refine WL_out0 .head ?_
  (repeat (first | (refine WC_seq ?_) | (refine WC_block ?_) | (refine WC_region ?_) | (refine WL_val rfl rfl rfl (by first | exact val_move rfl | exact val_fieldAddr0 rfl | (apply val_load_blk; exact rfl; (repeat (first | exact .head | apply Pick.tail)); exact rfl) | exact val_nilCheck rfl | exact val_len rfl) ?_)))
  refine WC_loopS (G := Nat × O4) (fun i => i.1 ≤ x.history.length) (fun i => [(0, .pointer (some ⟨o, 0, none⟩)), (1, .pointer (some ⟨xb, 0, none⟩)), (8, .pointer (some ⟨bl, 0, none⟩)), (82, a.history.sl x.history.length), (83, .int .i64 x.history.length), (84, .int .i64 i.1)])
    (fun i => outΔ bl i.2 (OS.init.bytes ((x.history.take i.1).flatMap (fun r : Root => r.toList))) ++ (outΔ o g s8 ++ [.blk xb (stateS x a) 49])) (fun i => x.history.length - i.1) (0, O4.none) (Nat.zero_le _) ⟨rfl, rfl, rfl, rfl, rfl, rfl, trivial⟩ (by repeat (first | exact Sel.nil | refine Sel.cons (by repeat (first | exact .head | apply Pick.tail | apply Put.tail)) ?_)) ?_
  intro ⟨i, gl⟩ hi
  dsimp only at hi ⊢
  (repeat (first | (refine WC_seq ?_) | (refine WC_region ?_) | (refine WL_val rfl rfl rfl (by exact val_lss rfl rfl) ?_)))
  refine WC_cond rfl (fun ht => ?_) (fun hf => ?_)
  · have hlt : i < x.history.length := by have := of_decide_eq_true ht; omega
    have hb := flatMap_take_le (fun r : Root => r.toList) 32 x.history i (fun _ => by simp)
    obtain ⟨b, oo, hp, hr⟩ := SlV.posOld hL.history.1 hL.history.2 (by omega) (by decide)
    (repeat (first | (refine WC_seq ?_) | (refine WC_block ?_) | (refine WC_region ?_) | (refine WC_skip ?_)))
    refine WL_val rfl rfl rfl (val_indexAddrP hp rfl rfl hlt) ?_
    refine WL_val rfl rfl rfl (val_load_row (q := [(32, bv x.history[i])]) rfl (hr _) ((drop_take_flatMap bv 32 _ i hlt (fun _ _ => bv_length _)).trans (by simp [flat])) (by simp [flat])) ?_
    (first | (refine WL_alloc rfl rfl (fun b5 => ?_)) | (refine WL_box_agg rfl rfl rfl inferInstance (fun b5 => ?_)) | (refine WL_box rfl rfl rfl rfl (fun b5 => ?_)))
    (first | (refine WL_store rfl rfl rfl rfl (by repeat (first | exact .head | apply Pick.tail | apply Put.tail)) (by repeat (first | exact PutSeg.one | apply PutSeg.skip | apply PutSeg.next | exact PutSeg.inner rfl)) ?_) | (refine WL_store_agg rfl rfl rfl (by repeat (first | exact .head | apply Pick.tail | apply Put.tail)) (by repeat (first | exact PutSeg.one | apply PutSeg.skip | apply PutSeg.next | exact PutSeg.inner rfl)) ?_))
    refine WL_mid ?_
    (repeat (first | (refine WC_region ?_) | (refine WL_val rfl rfl rfl (by exact val_slice_arr rfl) ?_)))
    refine WL_outBlk rfl rfl rfl rfl .head (bl := x.history[i].toList) (by exact rfl) (by simp) (by decide) (by simp at hb ⊢; omega) (fun g2 => ?_)
    rw [OS.bytes_bytes, show x.history[i].toList = (fun r : Root => r.toList) x.history[i] from rfl, ← flatMap_take_succ (fun r : Root => r.toList) _ i hlt]
    (repeat (first | (refine WC_region ?_) | (refine WL_nil ?_) | (refine WL_val rfl rfl rfl (by first | exact val_move rfl | (apply val_addI; exact rfl; exact rfl; omega; omega)) ?_)))
    exact QX_againS (i + 1, g2) (by simp; omega) (by simp; omega) ⟨rfl, rfl, rfl, rfl, rfl, rfl, trivial⟩ (by repeat (first | exact Sel.nil | refine Sel.cons (by repeat (first | exact .head | apply Pick.tail | apply Put.tail)) ?_))
  have hi8 : i = x.history.length := by have := of_decide_eq_false hf; omega
  subst hi8
  clear hf hi
  rw [show x.history.take x.history.length = x.history from List.take_length]
  have hb := flatMap_take_le (fun r : Root => r.toList) 32 x.history x.history.length (fun _ => by simp)
  rw [List.take_length] at hb
  (repeat (first | (refine WC_region ?_) | (refine WC_exit ?_) | (refine WL_val rfl rfl rfl (by exact val_move rfl) ?_)))
  refine WL_outDone rfl rfl rfl (OS.Ok.init.bytes _) (by simp) (by simp at hb ⊢; omega) (fun p c => ?_)
  have e : (OS.init.bytes (x.history.flatMap (fun r : Root => r.toList))).done = x.history.flatMap (fun r : Root => r.toList) := by rw [OS.done_flat (by simp) (by simp)]; simp
  rw [e]
  clear e
  (repeat (refine WL_val rfl rfl rfl (by exact val_extract rfl rfl) ?_))
  refine WL_mid ?_
  skip
  refine WL_laterSl (er := 0) rfl rfl rfl rfl rfl .head rfl (by have := k8; omega) (by have := k8; omega) (by have := k8; omega) (by have := k8; omega) (fun g => ?_)
  have k9 : (s8.later (x.history.flatMap (fun r : Root => r.toList)) 0).head.length ≤ 10692 ∧ (s8.later (x.history.flatMap (fun r : Root => r.toList)) 0).rest.length ≤ 10136314880 ∧ (s8.later (x.history.flatMap (fun r : Root => r.toList)) 0).holes.length ≤ 101 ∧ (s8.later (x.history.flatMap (fun r : Root => r.toList)) 0).ends.length ≤ 101 := by have := k8; simp only [OS.later_head, OS.later_rest, OS.later_holes, OS.later_ends, List.length_append, List.length_cons, List.length_nil]; omega
  generalize hs9 : (s8.later (x.history.flatMap (fun r : Root => r.toList)) 0) = s9 at k9 ⊢
  (repeat (first | (refine WC_seq ?_) | (refine WC_region ?_) | (refine WL_val rfl rfl rfl (by first | exact val_move rfl | exact val_fieldAddr0 rfl | (apply val_load_blk_agg; exact rfl; (repeat (first | exact .head | apply Pick.tail)); exact rfl) | exact val_nilCheck rfl) ?_)))
  refine WL_enc rfl rfl rfl (fun w _ => smallEncEth1 w x.eth1) (fun p c => ?_)
  refine WL_mid ?_
  skip
  refine WL_outSl rfl rfl rfl rfl .head (by simp) (by have := k9; omega) (fun g => ?_)
  have k10 : (s9.bytes (encEth1 x.eth1)).head.length ≤ 10764 ∧ (s9.bytes (encEth1 x.eth1)).rest.length ≤ 10136314880 ∧ (s9.bytes (encEth1 x.eth1)).holes.length ≤ 101 ∧ (s9.bytes (encEth1 x.eth1)).ends.length ≤ 101 := by have := k9; simp; omega
  generalize hs10 : (s9.bytes (encEth1 x.eth1)) = s10 at k10 ⊢
  (repeat (first | (refine WC_seq ?_) | (refine WC_region ?_) | (refine WL_nil ?_) | (refine QX_then ?_) | (refine WL_val rfl rfl rfl (by first | exact val_move rfl | exact val_fieldAddr0 rfl | (apply val_load_blk; exact rfl; (repeat (first | exact .head | apply Pick.tail)); exact rfl) | exact val_nilCheck rfl | exact val_len rfl | exact val_gtr rfl rfl) ?_)))
  refine WC_cut (G := O4) (fun _ => True) (fun _ => [(0, .pointer (some ⟨o, 0, none⟩)), (1, .pointer (some ⟨xb, 0, none⟩))]) (fun g => outΔ o g (s10.failIf (decide (8 < x.votes.length)) 6) ++ [.blk xb (stateS x a) 49]) ?_ (fun g _ => ?_)
  · refine WC_cond rfl (fun ht => ?_) (fun hf => ?_)
    · have hd : 8 < x.votes.length := by have := of_decide_eq_true ht; omega
      have ee : s10.failIf (decide (8 < x.votes.length)) 6 = s10.fail 6 := by simp [OS.failIf, hd]
      (repeat (first | (refine WC_region ?_) | (refine WL_val rfl rfl rfl (by exact val_move rfl) ?_)))
      refine WL_outFail rfl rfl rfl rfl (fun g2 => ?_)
      (repeat (refine WL_nil ?_))
      rw [← ee]
      exact QX_join g2 trivial ⟨rfl, rfl, trivial⟩ (by repeat (first | exact Sel.nil | refine Sel.cons (by repeat (first | exact .head | apply Pick.tail | apply Put.tail)) ?_))
    · have hd : ¬ 8 < x.votes.length := by have := of_decide_eq_false hf; omega
      have ee : s10.failIf (decide (8 < x.votes.length)) 6 = s10 := by simp [OS.failIf, hd]
      (repeat (refine WC_skip ?_))
      refine QX_join g trivial ⟨rfl, rfl, trivial⟩ ?_
      rw [ee]
      exact (by repeat (first | exact Sel.nil | refine Sel.cons (by repeat (first | exact .head | apply Pick.tail | apply Put.tail)) ?_))
  have k11 : (s10.failIf (decide (8 < x.votes.length)) 6).head.length ≤ 10764 ∧ (s10.failIf (decide (8 < x.votes.length)) 6).rest.length ≤ 10136314880 ∧ (s10.failIf (decide (8 < x.votes.length)) 6).holes.length ≤ 101 ∧ (s10.failIf (decide (8 < x.votes.length)) 6).ends.length ≤ 101 := by have := k10; simp; omega
  generalize hs11 : (s10.failIf (decide (8 < x.votes.length)) 6) = s11 at k11 ⊢
  (repeat (first | (refine WC_seq ?_) | (refine WC_region ?_)))
  (first | (refine WL_alloc rfl rfl (fun bl => ?_)) | (refine WL_box_agg rfl rfl rfl inferInstance (fun bl => ?_)) | (refine WL_box rfl rfl rfl rfl (fun bl => ?_)))
  refine WL_out0 .head ?_
  (repeat (first | (refine WC_seq ?_) | (refine WC_block ?_) | (refine WC_region ?_) | (refine WL_val rfl rfl rfl (by first | exact val_move rfl | exact val_fieldAddr0 rfl | (apply val_load_blk; exact rfl; (repeat (first | exact .head | apply Pick.tail)); exact rfl) | exact val_nilCheck rfl | exact val_len rfl) ?_)))
  refine WC_loopS (G := Nat × O4) (fun i => i.1 ≤ x.votes.length) (fun i => [(0, .pointer (some ⟨o, 0, none⟩)), (1, .pointer (some ⟨xb, 0, none⟩)), (11, .pointer (some ⟨bl, 0, none⟩)), (114, a.votes.sl x.votes.length), (115, .int .i64 x.votes.length), (116, .int .i64 i.1)])
    (fun i => outΔ bl i.2 (OS.init.bytes ((x.votes.take i.1).flatMap encEth1)) ++ (outΔ o g s11 ++ [.blk xb (stateS x a) 49])) (fun i => x.votes.length - i.1) (0, O4.none) (Nat.zero_le _) ⟨rfl, rfl, rfl, rfl, rfl, rfl, trivial⟩ (by repeat (first | exact Sel.nil | refine Sel.cons (by repeat (first | exact .head | apply Pick.tail | apply Put.tail)) ?_)) ?_
  intro ⟨i, gl⟩ hi
  dsimp only at hi ⊢
  (repeat (first | (refine WC_seq ?_) | (refine WC_region ?_) | (refine WL_val rfl rfl rfl (by exact val_lss rfl rfl) ?_)))
  refine WC_cond rfl (fun ht => ?_) (fun hf => ?_)
  · have hlt : i < x.votes.length := by have := of_decide_eq_true ht; omega
    have hb := flatMap_take_le encEth1 72 x.votes i (fun _ => by simp)
    obtain ⟨b, oo, hp, hr⟩ := SlV.posOld hL.votes.1 hL.votes.2 (by omega) (by decide)
    (repeat (first | (refine WC_seq ?_) | (refine WC_block ?_) | (refine WC_region ?_) | (refine WC_skip ?_)))
    refine WL_val rfl rfl rfl (val_indexAddrP hp rfl rfl hlt) ?_
    refine WL_val rfl rfl rfl (val_load_row (q := eth1S x.votes[i]) rfl (hr _) (drop_take_flatMap eth1C 65 _ i hlt (fun _ _ => eth1C_length _)) (eth1C_length _)) ?_
    (first | (refine WL_alloc rfl rfl (fun b5 => ?_)) | (refine WL_box_agg rfl rfl rfl inferInstance (fun b5 => ?_)) | (refine WL_box rfl rfl rfl rfl (fun b5 => ?_)))
    (first | (refine WL_store rfl rfl rfl rfl (by repeat (first | exact .head | apply Pick.tail | apply Put.tail)) (by repeat (first | exact PutSeg.one | apply PutSeg.skip | apply PutSeg.next | exact PutSeg.inner rfl)) ?_) | (refine WL_store_agg rfl rfl rfl (by repeat (first | exact .head | apply Pick.tail | apply Put.tail)) (by repeat (first | exact PutSeg.one | apply PutSeg.skip | apply PutSeg.next | exact PutSeg.inner rfl)) ?_))
    refine WL_mid ?_
    (repeat (first | (refine WC_region ?_) | (refine WL_val rfl rfl rfl (by apply val_load_blk_agg; exact rfl; (repeat (first | exact .head | apply Pick.tail)); exact rfl) ?_)))
    refine WL_enc rfl rfl rfl (fun w _ => smallEncEth1 w x.votes[i]) (fun p c => ?_)
    refine WL_mid ?_
    skip
    refine WL_outSl rfl rfl rfl rfl .head (by simp) (by simp at hb ⊢; omega) (fun g2 => ?_)
    rw [OS.bytes_bytes, show encEth1 x.votes[i] = encEth1 x.votes[i] from rfl, ← flatMap_take_succ encEth1 _ i hlt]
    (repeat (first | (refine WC_region ?_) | (refine WL_nil ?_) | (refine WL_val rfl rfl rfl (by first | exact val_move rfl | (apply val_addI; exact rfl; exact rfl; omega; omega)) ?_)))
    exact QX_againS (i + 1, g2) (by simp; omega) (by simp; omega) ⟨rfl, rfl, rfl, rfl, rfl, rfl, trivial⟩ (by repeat (first | exact Sel.nil | refine Sel.cons (by repeat (first | exact .head | apply Pick.tail | apply Put.tail)) ?_))
  have hi8 : i = x.votes.length := by have := of_decide_eq_false hf; omega
  subst hi8
  clear hf hi
  rw [show x.votes.take x.votes.length = x.votes from List.take_length]
  have hb := flatMap_take_le encEth1 72 x.votes x.votes.length (fun _ => by simp)
  rw [List.take_length] at hb
  (repeat (first | (refine WC_region ?_) | (refine WC_exit ?_) | (refine WL_val rfl rfl rfl (by exact val_move rfl) ?_)))
  refine WL_outDone rfl rfl rfl (OS.Ok.init.bytes _) (by simp) (by simp at hb ⊢; omega) (fun p c => ?_)
  have e : (OS.init.bytes (x.votes.flatMap encEth1)).done = x.votes.flatMap encEth1 := by rw [OS.done_flat (by simp) (by simp)]; simp
  rw [e]
  clear e
  (repeat (refine WL_val rfl rfl rfl (by exact val_extract rfl rfl) ?_))
  refine WL_mid ?_
  skip
  refine WL_laterSl (er := 0) rfl rfl rfl rfl rfl .head rfl (by have := k11; omega) (by have := k11; omega) (by have := k11; omega) (by have := k11; omega) (fun g => ?_)
  have k12 : (s11.later (x.votes.flatMap encEth1) 0).head.length ≤ 10768 ∧ (s11.later (x.votes.flatMap encEth1) 0).rest.length ≤ 10272629760 ∧ (s11.later (x.votes.flatMap encEth1) 0).holes.length ≤ 102 ∧ (s11.later (x.votes.flatMap encEth1) 0).ends.length ≤ 102 := by have := k11; simp only [OS.later_head, OS.later_rest, OS.later_holes, OS.later_ends, List.length_append, List.length_cons, List.length_nil]; omega
  generalize hs12 : (s11.later (x.votes.flatMap encEth1) 0) = s12 at k12 ⊢
  (repeat (first | (refine WC_seq ?_) | (refine WC_region ?_) | (refine WL_val rfl rfl rfl (by first | exact val_move rfl | exact val_fieldAddr0 rfl | (apply val_load_blk; exact rfl; (repeat (first | exact .head | apply Pick.tail)); exact rfl) | exact val_nilCheck rfl) ?_)))
  refine WL_outU64 rfl rfl rfl rfl (by have := k12; omega) (fun g => ?_)
  have k13 : (s12.u64 x.deposits.toNat).head.length ≤ 10776 ∧ (s12.u64 x.deposits.toNat).rest.length ≤ 10272629760 ∧ (s12.u64 x.deposits.toNat).holes.length ≤ 102 ∧ (s12.u64 x.deposits.toNat).ends.length ≤ 102 := by have := k12; simp; omega
  generalize hs13 : (s12.u64 x.deposits.toNat) = s13 at k13 ⊢
  (repeat (first | (refine WC_seq ?_) | (refine WC_region ?_) | (refine WL_nil ?_) | (refine QX_then ?_) | (refine WL_val rfl rfl rfl (by first | exact val_move rfl | exact val_fieldAddr0 rfl | (apply val_load_blk; exact rfl; (repeat (first | exact .head | apply Pick.tail)); exact rfl) | exact val_nilCheck rfl | exact val_len rfl | exact val_gtr rfl rfl) ?_)))
  refine WC_cut (G := O4) (fun _ => True) (fun _ => [(0, .pointer (some ⟨o, 0, none⟩)), (1, .pointer (some ⟨xb, 0, none⟩))]) (fun g => outΔ o g (s13.failIf (decide (65536 < x.validators.length)) 6) ++ [.blk xb (stateS x a) 49]) ?_ (fun g _ => ?_)
  · refine WC_cond rfl (fun ht => ?_) (fun hf => ?_)
    · have hd : 65536 < x.validators.length := by have := of_decide_eq_true ht; omega
      have ee : s13.failIf (decide (65536 < x.validators.length)) 6 = s13.fail 6 := by simp [OS.failIf, hd]
      (repeat (first | (refine WC_region ?_) | (refine WL_val rfl rfl rfl (by exact val_move rfl) ?_)))
      refine WL_outFail rfl rfl rfl rfl (fun g2 => ?_)
      (repeat (refine WL_nil ?_))
      rw [← ee]
      exact QX_join g2 trivial ⟨rfl, rfl, trivial⟩ (by repeat (first | exact Sel.nil | refine Sel.cons (by repeat (first | exact .head | apply Pick.tail | apply Put.tail)) ?_))
    · have hd : ¬ 65536 < x.validators.length := by have := of_decide_eq_false hf; omega
      have ee : s13.failIf (decide (65536 < x.validators.length)) 6 = s13 := by simp [OS.failIf, hd]
      (repeat (refine WC_skip ?_))
      refine QX_join g trivial ⟨rfl, rfl, trivial⟩ ?_
      rw [ee]
      exact (by repeat (first | exact Sel.nil | refine Sel.cons (by repeat (first | exact .head | apply Pick.tail | apply Put.tail)) ?_))
  have k14 : (s13.failIf (decide (65536 < x.validators.length)) 6).head.length ≤ 10776 ∧ (s13.failIf (decide (65536 < x.validators.length)) 6).rest.length ≤ 10272629760 ∧ (s13.failIf (decide (65536 < x.validators.length)) 6).holes.length ≤ 102 ∧ (s13.failIf (decide (65536 < x.validators.length)) 6).ends.length ≤ 102 := by have := k13; simp; omega
  generalize hs14 : (s13.failIf (decide (65536 < x.validators.length)) 6) = s14 at k14 ⊢
  (repeat (first | (refine WC_seq ?_) | (refine WC_region ?_)))
  (first | (refine WL_alloc rfl rfl (fun bl => ?_)) | (refine WL_box_agg rfl rfl rfl inferInstance (fun bl => ?_)) | (refine WL_box rfl rfl rfl rfl (fun bl => ?_)))
  refine WL_out0 .head ?_
  (repeat (first | (refine WC_seq ?_) | (refine WC_block ?_) | (refine WC_region ?_) | (refine WL_val rfl rfl rfl (by first | exact val_move rfl | exact val_fieldAddr0 rfl | (apply val_load_blk; exact rfl; (repeat (first | exact .head | apply Pick.tail)); exact rfl) | exact val_nilCheck rfl | exact val_len rfl) ?_)))
  refine WC_loopS (G := Nat × O4) (fun i => i.1 ≤ x.validators.length) (fun i => [(0, .pointer (some ⟨o, 0, none⟩)), (1, .pointer (some ⟨xb, 0, none⟩)), (14, .pointer (some ⟨bl, 0, none⟩)), (146, a.validators.sl x.validators.length), (147, .int .i64 x.validators.length), (148, .int .i64 i.1)])
    (fun i => outΔ bl i.2 (OS.init.bytes ((x.validators.take i.1).flatMap encValidator)) ++ (outΔ o g s14 ++ [.blk xb (stateS x a) 49])) (fun i => x.validators.length - i.1) (0, O4.none) (Nat.zero_le _) ⟨rfl, rfl, rfl, rfl, rfl, rfl, trivial⟩ (by repeat (first | exact Sel.nil | refine Sel.cons (by repeat (first | exact .head | apply Pick.tail | apply Put.tail)) ?_)) ?_
  intro ⟨i, gl⟩ hi
  dsimp only at hi ⊢
  (repeat (first | (refine WC_seq ?_) | (refine WC_region ?_) | (refine WL_val rfl rfl rfl (by exact val_lss rfl rfl) ?_)))
  refine WC_cond rfl (fun ht => ?_) (fun hf => ?_)
  · have hlt : i < x.validators.length := by have := of_decide_eq_true ht; omega
    have hb := flatMap_take_le encValidator 121 x.validators i (fun _ => by simp)
    obtain ⟨b, oo, hp, hr⟩ := SlV.posOld hL.validators.1 hL.validators.2 (by omega) (by decide)
    (repeat (first | (refine WC_seq ?_) | (refine WC_block ?_) | (refine WC_region ?_) | (refine WC_skip ?_)))
    refine WL_val rfl rfl rfl (val_indexAddrP hp rfl rfl hlt) ?_
    refine WL_val rfl rfl rfl (val_load_row (q := valS x.validators[i]) rfl (hr _) (drop_take_flatMap valC 86 _ i hlt (fun _ _ => valC_length _)) (valC_length _)) ?_
    (first | (refine WL_alloc rfl rfl (fun b5 => ?_)) | (refine WL_box_agg rfl rfl rfl inferInstance (fun b5 => ?_)) | (refine WL_box rfl rfl rfl rfl (fun b5 => ?_)))
    (first | (refine WL_store rfl rfl rfl rfl (by repeat (first | exact .head | apply Pick.tail | apply Put.tail)) (by repeat (first | exact PutSeg.one | apply PutSeg.skip | apply PutSeg.next | exact PutSeg.inner rfl)) ?_) | (refine WL_store_agg rfl rfl rfl (by repeat (first | exact .head | apply Pick.tail | apply Put.tail)) (by repeat (first | exact PutSeg.one | apply PutSeg.skip | apply PutSeg.next | exact PutSeg.inner rfl)) ?_))
    refine WL_mid ?_
    (repeat (first | (refine WC_region ?_) | (refine WL_val rfl rfl rfl (by apply val_load_blk_agg; exact rfl; (repeat (first | exact .head | apply Pick.tail)); exact rfl) ?_)))
    refine WL_enc rfl rfl rfl (fun w _ => smallEncValidator w x.validators[i]) (fun p c => ?_)
    refine WL_mid ?_
    skip
    refine WL_outSl rfl rfl rfl rfl .head (by simp) (by simp at hb ⊢; omega) (fun g2 => ?_)
    rw [OS.bytes_bytes, show encValidator x.validators[i] = encValidator x.validators[i] from rfl, ← flatMap_take_succ encValidator _ i hlt]
    (repeat (first | (refine WC_region ?_) | (refine WL_nil ?_) | (refine WL_val rfl rfl rfl (by first | exact val_move rfl | (apply val_addI; exact rfl; exact rfl; omega; omega)) ?_)))
    exact QX_againS (i + 1, g2) (by simp; omega) (by simp; omega) ⟨rfl, rfl, rfl, rfl, rfl, rfl, trivial⟩ (by repeat (first | exact Sel.nil | refine Sel.cons (by repeat (first | exact .head | apply Pick.tail | apply Put.tail)) ?_))
  have hi8 : i = x.validators.length := by have := of_decide_eq_false hf; omega
  subst hi8
  clear hf hi
  rw [show x.validators.take x.validators.length = x.validators from List.take_length]
  have hb := flatMap_take_le encValidator 121 x.validators x.validators.length (fun _ => by simp)
  rw [List.take_length] at hb
  (repeat (first | (refine WC_region ?_) | (refine WC_exit ?_) | (refine WL_val rfl rfl rfl (by exact val_move rfl) ?_)))
  refine WL_outDone rfl rfl rfl (OS.Ok.init.bytes _) (by simp) (by simp at hb ⊢; omega) (fun p c => ?_)
  have e : (OS.init.bytes (x.validators.flatMap encValidator)).done = x.validators.flatMap encValidator := by rw [OS.done_flat (by simp) (by simp)]; simp
  rw [e]
  clear e
  (repeat (refine WL_val rfl rfl rfl (by exact val_extract rfl rfl) ?_))
  refine WL_mid ?_
  skip
  refine WL_laterSl (er := 0) rfl rfl rfl rfl rfl .head rfl (by have := k14; omega) (by have := k14; omega) (by have := k14; omega) (by have := k14; omega) (fun g => ?_)
  have k15 : (s14.later (x.validators.flatMap encValidator) 0).head.length ≤ 10780 ∧ (s14.later (x.validators.flatMap encValidator) 0).rest.length ≤ 10408944640 ∧ (s14.later (x.validators.flatMap encValidator) 0).holes.length ≤ 103 ∧ (s14.later (x.validators.flatMap encValidator) 0).ends.length ≤ 103 := by have := k14; simp only [OS.later_head, OS.later_rest, OS.later_holes, OS.later_ends, List.length_append, List.length_cons, List.length_nil]; omega
  generalize hs15 : (s14.later (x.validators.flatMap encValidator) 0) = s15 at k15 ⊢
  (repeat (refine WL_nil ?_))
  refine QX_end (l := []) rfl .nil ?_
  intro w' hw'
  subst hs15 hs14 hs13 hs12 hs11 hs10 hs9 hs8 hs7 hs6 hs5 hs4 hs3 hs2 hs1
  exact gives g hw' trivial rfl (by repeat (first | exact Sel.nil | refine Sel.cons (by repeat (first | exact .head | apply Pick.tail | apply Put.tail)) ?_))

end Go.PK

/- The writer of states, in three parts. Written by a program (genst.py). -/
namespace Go.PK
open Go.Proofs

/-- what encState2 writes -/
def st2 (x : StateD) (s : OS) : OS := ((((((((((((s.failIf (decide (65536 < x.balances.length)) 6).later (x.balances.flatMap (fun n : UInt64 => le8 n.toNat)) 0).bytes (rows x.mixes.toList)).bytes (x.slashings.toList.flatMap (fun n : UInt64 => le8 n.toNat))).failIf (decide (65536 < x.previous.length)) 6).later (x.previous.flatMap (fun b : UInt8 => [b])) 0).failIf (decide (65536 < x.current.length)) 6).later (x.current.flatMap (fun b : UInt8 => [b])) 0).bytes (bitsV x.bits.toList)).bytes (encCheckpoint x.oldJust)).bytes (encCheckpoint x.just)).bytes (encCheckpoint x.final))

set_option maxHeartbeats 4000000 in
theorem encState2 (w : World) (o xb : Nat) (g : O4) (s : OS) (x : StateD) (a : Addrs) (S : List Nat) (hm : Mem (outΔ o g s ++ [.blk xb (stateS x a) 49]) S w w) (hL : ListsAt w S x a) (hz : x.Small)
    (h1 : s.head.length ≤ 10000) (h2 : s.rest.length ≤ 10000000000) (h3 : s.holes.length ≤ 100) (h4 : s.ends.length ≤ 100) :
    Calls Try.prog 19 [.pointer (some ⟨o, 0, none⟩), .pointer (some ⟨xb, 0, none⟩)].toArray w (Gives (fun _ : O4 => True) (fun _ => .tuple #[]) (fun g => outΔ o g (st2 x s) ++ [.blk xb (stateS x a) 49]) S w) := by
  obtain ⟨z1, z2, z3, z4, z5, z6, z7⟩ := hz
  refine calls_enter (fn := Try.f19) Try.func19 rfl Try.ntmps19 rfl hm ?_
  have k0 : s.head.length ≤ 10000 ∧ s.rest.length ≤ 10000000000 ∧ s.holes.length ≤ 100 ∧ s.ends.length ≤ 100 := ⟨h1, h2, h3, h4⟩
  (repeat (first | (refine WC_seq ?_) | (refine WC_region ?_) | (refine WL_nil ?_) | (refine QX_then ?_) | (refine WL_val rfl rfl rfl (by first | exact val_move rfl | exact val_fieldAddr0 rfl | (apply val_load_blk; exact rfl; (repeat (first | exact .head | apply Pick.tail)); exact rfl) | exact val_nilCheck rfl | exact val_len rfl | exact val_gtr rfl rfl) ?_)))
  refine WC_cut (G := O4) (fun _ => True) (fun _ => [(0, .pointer (some ⟨o, 0, none⟩)), (1, .pointer (some ⟨xb, 0, none⟩))]) (fun g => outΔ o g (s.failIf (decide (65536 < x.balances.length)) 6) ++ [.blk xb (stateS x a) 49]) ?_ (fun g _ => ?_)
  · refine WC_cond rfl (fun ht => ?_) (fun hf => ?_)
    · have hd : 65536 < x.balances.length := by have := of_decide_eq_true ht; omega
      have ee : s.failIf (decide (65536 < x.balances.length)) 6 = s.fail 6 := by simp [OS.failIf, hd]
      (repeat (first | (refine WC_region ?_) | (refine WL_val rfl rfl rfl (by exact val_move rfl) ?_)))
      refine WL_outFail rfl rfl rfl rfl (fun g2 => ?_)
      (repeat (refine WL_nil ?_))
      rw [← ee]
      exact QX_join g2 trivial ⟨rfl, rfl, trivial⟩ (by repeat (first | exact Sel.nil | refine Sel.cons (by repeat (first | exact .head | apply Pick.tail | apply Put.tail)) ?_))
    · have hd : ¬ 65536 < x.balances.length := by have := of_decide_eq_false hf; omega
      have ee : s.failIf (decide (65536 < x.balances.length)) 6 = s := by simp [OS.failIf, hd]
      (repeat (refine WC_skip ?_))
      refine QX_join g trivial ⟨rfl, rfl, trivial⟩ ?_
      rw [ee]
      exact (by repeat (first | exact Sel.nil | refine Sel.cons (by repeat (first | exact .head | apply Pick.tail | apply Put.tail)) ?_))
  have k1 : (s.failIf (decide (65536 < x.balances.length)) 6).head.length ≤ 10000 ∧ (s.failIf (decide (65536 < x.balances.length)) 6).rest.length ≤ 10000000000 ∧ (s.failIf (decide (65536 < x.balances.length)) 6).holes.length ≤ 100 ∧ (s.failIf (decide (65536 < x.balances.length)) 6).ends.length ≤ 100 := by have := k0; simp; omega
  generalize hs1 : (s.failIf (decide (65536 < x.balances.length)) 6) = s1 at k1 ⊢
  (repeat (first | (refine WC_seq ?_) | (refine WC_region ?_)))
  (first | (refine WL_alloc rfl rfl (fun bl => ?_)) | (refine WL_box_agg rfl rfl rfl inferInstance (fun bl => ?_)) | (refine WL_box rfl rfl rfl rfl (fun bl => ?_)))
  refine WL_out0 .head ?_
  (repeat (first | (refine WC_seq ?_) | (refine WC_block ?_) | (refine WC_region ?_) | (refine WL_val rfl rfl rfl (by first | exact val_move rfl | exact val_fieldAddr0 rfl | (apply val_load_blk; exact rfl; (repeat (first | exact .head | apply Pick.tail)); exact rfl) | exact val_nilCheck rfl | exact val_len rfl) ?_)))
  refine WC_loopS (G := Nat × O4) (fun i => i.1 ≤ x.balances.length) (fun i => [(0, .pointer (some ⟨o, 0, none⟩)), (1, .pointer (some ⟨xb, 0, none⟩)), (4, .pointer (some ⟨bl, 0, none⟩)), (28, a.balances.sl x.balances.length), (29, .int .i64 x.balances.length), (30, .int .i64 i.1)])
    (fun i => outΔ bl i.2 (OS.init.bytes ((x.balances.take i.1).flatMap (fun n : UInt64 => le8 n.toNat))) ++ (outΔ o g s1 ++ [.blk xb (stateS x a) 49])) (fun i => x.balances.length - i.1) (0, O4.none) (Nat.zero_le _) ⟨rfl, rfl, rfl, rfl, rfl, rfl, trivial⟩ (by repeat (first | exact Sel.nil | refine Sel.cons (by repeat (first | exact .head | apply Pick.tail | apply Put.tail)) ?_)) ?_
  intro ⟨i, gl⟩ hi
  dsimp only at hi ⊢
  (repeat (first | (refine WC_seq ?_) | (refine WC_region ?_) | (refine WL_val rfl rfl rfl (by exact val_lss rfl rfl) ?_)))
  refine WC_cond rfl (fun ht => ?_) (fun hf => ?_)
  · have hlt : i < x.balances.length := by have := of_decide_eq_true ht; omega
    have hb := flatMap_take_le (fun n : UInt64 => le8 n.toNat) 8 x.balances i (fun _ => by simp)
    obtain ⟨b, oo, hp, hr⟩ := SlV.posOld hL.balances.1 hL.balances.2 (by omega) (by decide)
    (repeat (first | (refine WC_seq ?_) | (refine WC_block ?_) | (refine WC_region ?_) | (refine WC_skip ?_)))
    refine WL_val rfl rfl rfl (val_indexAddrP1 hp rfl rfl hlt) ?_
    refine WL_val rfl rfl rfl (val_load_at (v := u64 x.balances[i]) rfl (hr _) (by simp [hlt])) ?_
    (repeat (first | (refine WC_region ?_) | (refine WL_val rfl rfl rfl (by first | exact val_move rfl | exact val_assign rfl) ?_)))
    refine WL_outU64 rfl rfl rfl rfl (by simp at hb ⊢; omega) (fun g2 => ?_)
    rw [OS.u64_eq, OS.bytes_bytes, ← flatMap_take_succ (fun n : UInt64 => le8 n.toNat) _ i hlt]
    (repeat (first | (refine WC_region ?_) | (refine WL_nil ?_) | (refine WL_val rfl rfl rfl (by first | exact val_move rfl | (apply val_addI; exact rfl; exact rfl; omega; omega)) ?_)))
    exact QX_againS (i + 1, g2) (by simp; omega) (by simp; omega) ⟨rfl, rfl, rfl, rfl, rfl, rfl, trivial⟩ (by repeat (first | exact Sel.nil | refine Sel.cons (by repeat (first | exact .head | apply Pick.tail | apply Put.tail)) ?_))
  have hi8 : i = x.balances.length := by have := of_decide_eq_false hf; omega
  subst hi8
  clear hf hi
  rw [show x.balances.take x.balances.length = x.balances from List.take_length]
  have hb := flatMap_take_le (fun n : UInt64 => le8 n.toNat) 8 x.balances x.balances.length (fun _ => by simp)
  rw [List.take_length] at hb
  (repeat (first | (refine WC_region ?_) | (refine WC_exit ?_) | (refine WL_val rfl rfl rfl (by exact val_move rfl) ?_)))
  refine WL_outDone rfl rfl rfl (OS.Ok.init.bytes _) (by simp) (by simp at hb ⊢; omega) (fun p c => ?_)
  have e : (OS.init.bytes (x.balances.flatMap (fun n : UInt64 => le8 n.toNat))).done = x.balances.flatMap (fun n : UInt64 => le8 n.toNat) := by rw [OS.done_flat (by simp) (by simp)]; simp
  rw [e]
  clear e
  (repeat (refine WL_val rfl rfl rfl (by exact val_extract rfl rfl) ?_))
  refine WL_mid ?_
  skip
  refine WL_laterSl (er := 0) rfl rfl rfl rfl rfl .head rfl (by have := k1; omega) (by have := k1; omega) (by have := k1; omega) (by have := k1; omega) (fun g => ?_)
  have k2 : (s1.later (x.balances.flatMap (fun n : UInt64 => le8 n.toNat)) 0).head.length ≤ 10004 ∧ (s1.later (x.balances.flatMap (fun n : UInt64 => le8 n.toNat)) 0).rest.length ≤ 10136314880 ∧ (s1.later (x.balances.flatMap (fun n : UInt64 => le8 n.toNat)) 0).holes.length ≤ 101 ∧ (s1.later (x.balances.flatMap (fun n : UInt64 => le8 n.toNat)) 0).ends.length ≤ 101 := by have := k1; simp only [OS.later_head, OS.later_rest, OS.later_holes, OS.later_ends, List.length_append, List.length_cons, List.length_nil]; omega
  generalize hs2 : (s1.later (x.balances.flatMap (fun n : UInt64 => le8 n.toNat)) 0) = s2 at k2 ⊢
  (repeat (first | (refine WC_seq ?_) | (refine WC_block ?_) | (refine WC_region ?_) | (refine WL_val rfl rfl rfl (by first | exact val_move rfl | exact val_fieldAddr0 rfl | (apply val_load_blk_agg; exact rfl; (repeat (first | exact .head | apply Pick.tail)); exact rfl) | exact val_nilCheck rfl) ?_)))
  refine WC_loopS (G := Nat × O4) (fun i => i.1 ≤ 8) (fun i => [(0, .pointer (some ⟨o, 0, none⟩)), (1, .pointer (some ⟨xb, 0, none⟩)), (45, aggS [(256, rootsV x.mixes)]), (46, .int .i64 i.1)]) (fun i => outΔ o i.2 (s2.bytes (rows (x.mixes.toList.take i.1))) ++ [.blk xb (stateS x a) 49]) (fun i => 8 - i.1) (0, g) (Nat.zero_le _) ⟨rfl, rfl, rfl, rfl, trivial⟩ (by rw [show s2.bytes (rows (x.mixes.toList.take (0, g).1)) = s2 from OS.bytes_nil _]; exact (by repeat (first | exact Sel.nil | refine Sel.cons (by repeat (first | exact .head | apply Pick.tail | apply Put.tail)) ?_))) ?_
  clear g
  intro ⟨i, g⟩ hi
  dsimp only at hi ⊢
  (repeat (first | (refine WC_seq ?_) | (refine WC_region ?_) | (refine WL_val rfl rfl rfl (by exact val_lss rfl rfl) ?_)))
  refine WC_cond rfl (fun ht => ?_) (fun hf => ?_)
  · have hlt : i < 8 := by have := of_decide_eq_true ht; omega
    have hb := rows_take_length x.mixes.toList i
    simp at hb
    (repeat (first | (refine WC_seq ?_) | (refine WC_block ?_) | (refine WC_region ?_) | (refine WC_skip ?_)))
    refine WL_val rfl rfl rfl (val_indexRow rfl rfl hlt (rootsV_at x.mixes i hlt)) ?_
    (first | (refine WL_alloc rfl rfl (fun b5 => ?_)) | (refine WL_box_agg rfl rfl rfl inferInstance (fun b5 => ?_)) | (refine WL_box rfl rfl rfl rfl (fun b5 => ?_)))
    (first | (refine WL_store rfl rfl rfl rfl (by repeat (first | exact .head | apply Pick.tail | apply Put.tail)) (by repeat (first | exact PutSeg.one | apply PutSeg.skip | apply PutSeg.next | exact PutSeg.inner rfl)) ?_) | (refine WL_store_agg rfl rfl rfl (by repeat (first | exact .head | apply Pick.tail | apply Put.tail)) (by repeat (first | exact PutSeg.one | apply PutSeg.skip | apply PutSeg.next | exact PutSeg.inner rfl)) ?_))
    refine WL_mid ?_
    (repeat (first | (refine WC_region ?_) | (refine WL_val rfl rfl rfl (by first | exact val_move rfl | exact val_slice_arr rfl) ?_)))
    refine WL_outBlk rfl rfl rfl rfl .head (bl := x.mixes[i].toList) (by exact rfl) (by simp) (by decide) (by have := k2; simp; omega) (fun g2 => ?_)
    rw [OS.bytes_bytes, show x.mixes[i].toList = (x.mixes.toList[i]'(by simpa using hlt)).toList from by simp, ← rows_succ _ i (by simpa using hlt)]
    (repeat (first | (refine WC_region ?_) | (refine WL_nil ?_) | (refine WL_val rfl rfl rfl (by first | exact val_move rfl | (apply val_addI; exact rfl; exact rfl; omega; omega)) ?_)))
    exact QX_againS (i + 1, g2) (by simp; omega) (by simp; omega) ⟨rfl, rfl, rfl, rfl, trivial⟩ (by repeat (first | exact Sel.nil | refine Sel.cons (by repeat (first | exact .head | apply Pick.tail | apply Put.tail)) ?_))
  have hi8 : i = 8 := by have := of_decide_eq_false hf; omega
  subst hi8
  clear hf hi
  rw [show x.mixes.toList.take 8 = x.mixes.toList from List.take_of_length_le (by simp)]
  have k3 : (s2.bytes (rows x.mixes.toList)).head.length ≤ 10260 ∧ (s2.bytes (rows x.mixes.toList)).rest.length ≤ 10136314880 ∧ (s2.bytes (rows x.mixes.toList)).holes.length ≤ 101 ∧ (s2.bytes (rows x.mixes.toList)).ends.length ≤ 101 := by have := k2; simp [rows_length]; omega
  generalize hs3 : (s2.bytes (rows x.mixes.toList)) = s3 at k3 ⊢
  (repeat (first | (refine WC_seq ?_) | (refine WC_block ?_) | (refine WC_region ?_) | (refine WC_exit ?_) | (refine WL_val rfl rfl rfl (by first | exact val_move rfl | exact val_fieldAddr0 rfl | (apply val_load_blk_agg; exact rfl; (repeat (first | exact .head | apply Pick.tail)); exact rfl) | exact val_nilCheck rfl) ?_)))
  refine WC_loopS (G := Nat × O4) (fun i => i.1 ≤ 8) (fun i => [(0, .pointer (some ⟨o, 0, none⟩)), (1, .pointer (some ⟨xb, 0, none⟩)), (56, aggS [(8, u64sV x.slashings)]), (57, .int .i64 i.1)]) (fun i => outΔ o i.2 (s3.bytes ((x.slashings.toList.take i.1).flatMap (fun n : UInt64 => le8 n.toNat))) ++ [.blk xb (stateS x a) 49]) (fun i => 8 - i.1) (0, g) (Nat.zero_le _) ⟨rfl, rfl, rfl, rfl, trivial⟩ (by rw [show s3.bytes ((x.slashings.toList.take (0, g).1).flatMap (fun n : UInt64 => le8 n.toNat)) = s3 from OS.bytes_nil _]; exact (by repeat (first | exact Sel.nil | refine Sel.cons (by repeat (first | exact .head | apply Pick.tail | apply Put.tail)) ?_))) ?_
  clear g
  intro ⟨i, g⟩ hi
  dsimp only at hi ⊢
  (repeat (first | (refine WC_seq ?_) | (refine WC_region ?_) | (refine WL_val rfl rfl rfl (by exact val_lss rfl rfl) ?_)))
  refine WC_cond rfl (fun ht => ?_) (fun hf => ?_)
  · have hlt : i < 8 := by have := of_decide_eq_true ht; omega
    have hb := flatMap_take_le (fun n : UInt64 => le8 n.toNat) 8 x.slashings.toList i (fun _ => rfl)
    simp at hb
    (repeat (first | (refine WC_seq ?_) | (refine WC_block ?_) | (refine WC_region ?_) | (refine WC_skip ?_)))
    refine WL_val rfl rfl rfl (val_indexCell (v := u64 x.slashings[i]) rfl rfl hlt (by simp [u64sV, hlt])) ?_
    (repeat (first | (refine WC_region ?_) | (refine WL_val rfl rfl rfl (by first | exact val_move rfl | exact val_assign rfl) ?_)))
    refine WL_outU64 rfl rfl rfl rfl (by have := k3; simp; omega) (fun g2 => ?_)
    rw [OS.u64_eq, OS.bytes_bytes, show le8 x.slashings[i].toNat = (fun n : UInt64 => le8 n.toNat) (x.slashings.toList[i]'(by simpa using hlt)) from by simp, ← flatMap_take_succ _ _ i (by simpa using hlt)]
    (repeat (first | (refine WC_region ?_) | (refine WL_nil ?_) | (refine WL_val rfl rfl rfl (by first | exact val_move rfl | (apply val_addI; exact rfl; exact rfl; omega; omega)) ?_)))
    exact QX_againS (i + 1, g2) (by simp; omega) (by simp; omega) ⟨rfl, rfl, rfl, rfl, trivial⟩ (by repeat (first | exact Sel.nil | refine Sel.cons (by repeat (first | exact .head | apply Pick.tail | apply Put.tail)) ?_))
  have hi8 : i = 8 := by have := of_decide_eq_false hf; omega
  subst hi8
  clear hf hi
  rw [show x.slashings.toList.take 8 = x.slashings.toList from List.take_of_length_le (by simp)]
  have k4 : (s3.bytes (x.slashings.toList.flatMap (fun n : UInt64 => le8 n.toNat))).head.length ≤ 10324 ∧ (s3.bytes (x.slashings.toList.flatMap (fun n : UInt64 => le8 n.toNat))).rest.length ≤ 10136314880 ∧ (s3.bytes (x.slashings.toList.flatMap (fun n : UInt64 => le8 n.toNat))).holes.length ≤ 101 ∧ (s3.bytes (x.slashings.toList.flatMap (fun n : UInt64 => le8 n.toNat))).ends.length ≤ 101 := by have := k3; have hb := flatMap_take_le (fun n : UInt64 => le8 n.toNat) 8 x.slashings.toList 8 (fun _ => rfl); rw [List.take_of_length_le (by simp)] at hb; simp only [OS.bytes_head, OS.bytes_rest, OS.bytes_holes, OS.bytes_ends, List.length_append]; simp at hb ⊢; omega
  generalize hs4 : (s3.bytes (x.slashings.toList.flatMap (fun n : UInt64 => le8 n.toNat))) = s4 at k4 ⊢
  (repeat (first | (refine WC_seq ?_) | (refine WC_region ?_) | (refine WC_exit ?_) | (refine WL_nil ?_) | (refine QX_then ?_) | (refine WL_val rfl rfl rfl (by first | exact val_move rfl | exact val_fieldAddr0 rfl | (apply val_load_blk; exact rfl; (repeat (first | exact .head | apply Pick.tail)); exact rfl) | exact val_nilCheck rfl | exact val_len rfl | exact val_gtr rfl rfl) ?_)))
  refine WC_cut (G := O4) (fun _ => True) (fun _ => [(0, .pointer (some ⟨o, 0, none⟩)), (1, .pointer (some ⟨xb, 0, none⟩))]) (fun g => outΔ o g (s4.failIf (decide (65536 < x.previous.length)) 6) ++ [.blk xb (stateS x a) 49]) ?_ (fun g _ => ?_)
  · refine WC_cond rfl (fun ht => ?_) (fun hf => ?_)
    · have hd : 65536 < x.previous.length := by have := of_decide_eq_true ht; omega
      have ee : s4.failIf (decide (65536 < x.previous.length)) 6 = s4.fail 6 := by simp [OS.failIf, hd]
      (repeat (first | (refine WC_region ?_) | (refine WL_val rfl rfl rfl (by exact val_move rfl) ?_)))
      refine WL_outFail rfl rfl rfl rfl (fun g2 => ?_)
      (repeat (refine WL_nil ?_))
      rw [← ee]
      exact QX_join g2 trivial ⟨rfl, rfl, trivial⟩ (by repeat (first | exact Sel.nil | refine Sel.cons (by repeat (first | exact .head | apply Pick.tail | apply Put.tail)) ?_))
    · have hd : ¬ 65536 < x.previous.length := by have := of_decide_eq_false hf; omega
      have ee : s4.failIf (decide (65536 < x.previous.length)) 6 = s4 := by simp [OS.failIf, hd]
      (repeat (refine WC_skip ?_))
      refine QX_join g trivial ⟨rfl, rfl, trivial⟩ ?_
      rw [ee]
      exact (by repeat (first | exact Sel.nil | refine Sel.cons (by repeat (first | exact .head | apply Pick.tail | apply Put.tail)) ?_))
  have k5 : (s4.failIf (decide (65536 < x.previous.length)) 6).head.length ≤ 10324 ∧ (s4.failIf (decide (65536 < x.previous.length)) 6).rest.length ≤ 10136314880 ∧ (s4.failIf (decide (65536 < x.previous.length)) 6).holes.length ≤ 101 ∧ (s4.failIf (decide (65536 < x.previous.length)) 6).ends.length ≤ 101 := by have := k4; simp; omega
  generalize hs5 : (s4.failIf (decide (65536 < x.previous.length)) 6) = s5 at k5 ⊢
  (repeat (first | (refine WC_seq ?_) | (refine WC_region ?_)))
  (first | (refine WL_alloc rfl rfl (fun bl => ?_)) | (refine WL_box_agg rfl rfl rfl inferInstance (fun bl => ?_)) | (refine WL_box rfl rfl rfl rfl (fun bl => ?_)))
  refine WL_out0 .head ?_
  (repeat (first | (refine WC_seq ?_) | (refine WC_block ?_) | (refine WC_region ?_) | (refine WL_val rfl rfl rfl (by first | exact val_move rfl | exact val_fieldAddr0 rfl | (apply val_load_blk; exact rfl; (repeat (first | exact .head | apply Pick.tail)); exact rfl) | exact val_nilCheck rfl | exact val_len rfl) ?_)))
  refine WC_loopS (G := Nat × O4) (fun i => i.1 ≤ x.previous.length) (fun i => [(0, .pointer (some ⟨o, 0, none⟩)), (1, .pointer (some ⟨xb, 0, none⟩)), (11, .pointer (some ⟨bl, 0, none⟩)), (75, a.previous.sl x.previous.length), (76, .int .i64 x.previous.length), (77, .int .i64 i.1)])
    (fun i => outΔ bl i.2 (OS.init.bytes ((x.previous.take i.1).flatMap (fun b : UInt8 => [b]))) ++ (outΔ o g s5 ++ [.blk xb (stateS x a) 49])) (fun i => x.previous.length - i.1) (0, O4.none) (Nat.zero_le _) ⟨rfl, rfl, rfl, rfl, rfl, rfl, trivial⟩ (by repeat (first | exact Sel.nil | refine Sel.cons (by repeat (first | exact .head | apply Pick.tail | apply Put.tail)) ?_)) ?_
  intro ⟨i, gl⟩ hi
  dsimp only at hi ⊢
  (repeat (first | (refine WC_seq ?_) | (refine WC_region ?_) | (refine WL_val rfl rfl rfl (by exact val_lss rfl rfl) ?_)))
  refine WC_cond rfl (fun ht => ?_) (fun hf => ?_)
  · have hlt : i < x.previous.length := by have := of_decide_eq_true ht; omega
    have hb := flatMap_take_le (fun b : UInt8 => [b]) 1 x.previous i (fun _ => by simp)
    obtain ⟨b, oo, hp, hr⟩ := SlV.posOld hL.previous.1 hL.previous.2 (by omega) (by decide)
    (repeat (first | (refine WC_seq ?_) | (refine WC_block ?_) | (refine WC_region ?_) | (refine WC_skip ?_)))
    refine WL_val rfl rfl rfl (val_indexAddrP1 hp rfl rfl hlt) ?_
    refine WL_val rfl rfl rfl (val_load_at (v := by8 x.previous[i]) rfl (hr _) (by simp [bs, hlt])) ?_
    (repeat (first | (refine WC_region ?_) | (refine WL_val rfl rfl rfl (by first | exact val_move rfl | exact val_assign rfl) ?_)))
    refine WL_build1 rfl rfl rfl rfl rfl rfl rfl rfl rfl rfl (fun b5 => ?_)
    refine WL_mid ?_
    skip
    refine WL_outBlk rfl rfl rfl rfl .head (bl := [x.previous[i]]) (by exact rfl) (by simp) (by decide) (by simp at hb ⊢; omega) (fun g2 => ?_)
    rw [OS.bytes_bytes, show [x.previous[i]] = (fun b : UInt8 => [b]) x.previous[i] from rfl, ← flatMap_take_succ (fun b : UInt8 => [b]) _ i hlt]
    (repeat (first | (refine WC_region ?_) | (refine WL_nil ?_) | (refine WL_val rfl rfl rfl (by first | exact val_move rfl | (apply val_addI; exact rfl; exact rfl; omega; omega)) ?_)))
    exact QX_againS (i + 1, g2) (by simp; omega) (by simp; omega) ⟨rfl, rfl, rfl, rfl, rfl, rfl, trivial⟩ (by repeat (first | exact Sel.nil | refine Sel.cons (by repeat (first | exact .head | apply Pick.tail | apply Put.tail)) ?_))
  have hi8 : i = x.previous.length := by have := of_decide_eq_false hf; omega
  subst hi8
  clear hf hi
  rw [show x.previous.take x.previous.length = x.previous from List.take_length]
  have hb := flatMap_take_le (fun b : UInt8 => [b]) 1 x.previous x.previous.length (fun _ => by simp)
  rw [List.take_length] at hb
  (repeat (first | (refine WC_region ?_) | (refine WC_exit ?_) | (refine WL_val rfl rfl rfl (by exact val_move rfl) ?_)))
  refine WL_outDone rfl rfl rfl (OS.Ok.init.bytes _) (by simp) (by simp at hb ⊢; omega) (fun p c => ?_)
  have e : (OS.init.bytes (x.previous.flatMap (fun b : UInt8 => [b]))).done = x.previous.flatMap (fun b : UInt8 => [b]) := by rw [OS.done_flat (by simp) (by simp)]; simp
  rw [e]
  clear e
  (repeat (refine WL_val rfl rfl rfl (by exact val_extract rfl rfl) ?_))
  refine WL_mid ?_
  skip
  refine WL_laterSl (er := 0) rfl rfl rfl rfl rfl .head rfl (by have := k5; omega) (by have := k5; omega) (by have := k5; omega) (by have := k5; omega) (fun g => ?_)
  have k6 : (s5.later (x.previous.flatMap (fun b : UInt8 => [b])) 0).head.length ≤ 10328 ∧ (s5.later (x.previous.flatMap (fun b : UInt8 => [b])) 0).rest.length ≤ 10272629760 ∧ (s5.later (x.previous.flatMap (fun b : UInt8 => [b])) 0).holes.length ≤ 102 ∧ (s5.later (x.previous.flatMap (fun b : UInt8 => [b])) 0).ends.length ≤ 102 := by have := k5; simp only [OS.later_head, OS.later_rest, OS.later_holes, OS.later_ends, List.length_append, List.length_cons, List.length_nil]; omega
  generalize hs6 : (s5.later (x.previous.flatMap (fun b : UInt8 => [b])) 0) = s6 at k6 ⊢
  (repeat (first | (refine WC_seq ?_) | (refine WC_region ?_) | (refine WL_nil ?_) | (refine QX_then ?_) | (refine WL_val rfl rfl rfl (by first | exact val_move rfl | exact val_fieldAddr0 rfl | (apply val_load_blk; exact rfl; (repeat (first | exact .head | apply Pick.tail)); exact rfl) | exact val_nilCheck rfl | exact val_len rfl | exact val_gtr rfl rfl) ?_)))
  refine WC_cut (G := O4) (fun _ => True) (fun _ => [(0, .pointer (some ⟨o, 0, none⟩)), (1, .pointer (some ⟨xb, 0, none⟩))]) (fun g => outΔ o g (s6.failIf (decide (65536 < x.current.length)) 6) ++ [.blk xb (stateS x a) 49]) ?_ (fun g _ => ?_)
  · refine WC_cond rfl (fun ht => ?_) (fun hf => ?_)
    · have hd : 65536 < x.current.length := by have := of_decide_eq_true ht; omega
      have ee : s6.failIf (decide (65536 < x.current.length)) 6 = s6.fail 6 := by simp [OS.failIf, hd]
      (repeat (first | (refine WC_region ?_) | (refine WL_val rfl rfl rfl (by exact val_move rfl) ?_)))
      refine WL_outFail rfl rfl rfl rfl (fun g2 => ?_)
      (repeat (refine WL_nil ?_))
      rw [← ee]
      exact QX_join g2 trivial ⟨rfl, rfl, trivial⟩ (by repeat (first | exact Sel.nil | refine Sel.cons (by repeat (first | exact .head | apply Pick.tail | apply Put.tail)) ?_))
    · have hd : ¬ 65536 < x.current.length := by have := of_decide_eq_false hf; omega
      have ee : s6.failIf (decide (65536 < x.current.length)) 6 = s6 := by simp [OS.failIf, hd]
      (repeat (refine WC_skip ?_))
      refine QX_join g trivial ⟨rfl, rfl, trivial⟩ ?_
      rw [ee]
      exact (by repeat (first | exact Sel.nil | refine Sel.cons (by repeat (first | exact .head | apply Pick.tail | apply Put.tail)) ?_))
  have k7 : (s6.failIf (decide (65536 < x.current.length)) 6).head.length ≤ 10328 ∧ (s6.failIf (decide (65536 < x.current.length)) 6).rest.length ≤ 10272629760 ∧ (s6.failIf (decide (65536 < x.current.length)) 6).holes.length ≤ 102 ∧ (s6.failIf (decide (65536 < x.current.length)) 6).ends.length ≤ 102 := by have := k6; simp; omega
  generalize hs7 : (s6.failIf (decide (65536 < x.current.length)) 6) = s7 at k7 ⊢
  (repeat (first | (refine WC_seq ?_) | (refine WC_region ?_)))
  (first | (refine WL_alloc rfl rfl (fun bl => ?_)) | (refine WL_box_agg rfl rfl rfl inferInstance (fun bl => ?_)) | (refine WL_box rfl rfl rfl rfl (fun bl => ?_)))
  refine WL_out0 .head ?_
  (repeat (first | (refine WC_seq ?_) | (refine WC_block ?_) | (refine WC_region ?_) | (refine WL_val rfl rfl rfl (by first | exact val_move rfl | exact val_fieldAddr0 rfl | (apply val_load_blk; exact rfl; (repeat (first | exact .head | apply Pick.tail)); exact rfl) | exact val_nilCheck rfl | exact val_len rfl) ?_)))
  refine WC_loopS (G := Nat × O4) (fun i => i.1 ≤ x.current.length) (fun i => [(0, .pointer (some ⟨o, 0, none⟩)), (1, .pointer (some ⟨xb, 0, none⟩)), (14, .pointer (some ⟨bl, 0, none⟩)), (101, a.current.sl x.current.length), (102, .int .i64 x.current.length), (103, .int .i64 i.1)])
    (fun i => outΔ bl i.2 (OS.init.bytes ((x.current.take i.1).flatMap (fun b : UInt8 => [b]))) ++ (outΔ o g s7 ++ [.blk xb (stateS x a) 49])) (fun i => x.current.length - i.1) (0, O4.none) (Nat.zero_le _) ⟨rfl, rfl, rfl, rfl, rfl, rfl, trivial⟩ (by repeat (first | exact Sel.nil | refine Sel.cons (by repeat (first | exact .head | apply Pick.tail | apply Put.tail)) ?_)) ?_
  intro ⟨i, gl⟩ hi
  dsimp only at hi ⊢
  (repeat (first | (refine WC_seq ?_) | (refine WC_region ?_) | (refine WL_val rfl rfl rfl (by exact val_lss rfl rfl) ?_)))
  refine WC_cond rfl (fun ht => ?_) (fun hf => ?_)
  · have hlt : i < x.current.length := by have := of_decide_eq_true ht; omega
    have hb := flatMap_take_le (fun b : UInt8 => [b]) 1 x.current i (fun _ => by simp)
    obtain ⟨b, oo, hp, hr⟩ := SlV.posOld hL.current.1 hL.current.2 (by omega) (by decide)
    (repeat (first | (refine WC_seq ?_) | (refine WC_block ?_) | (refine WC_region ?_) | (refine WC_skip ?_)))
    refine WL_val rfl rfl rfl (val_indexAddrP1 hp rfl rfl hlt) ?_
    refine WL_val rfl rfl rfl (val_load_at (v := by8 x.current[i]) rfl (hr _) (by simp [bs, hlt])) ?_
    (repeat (first | (refine WC_region ?_) | (refine WL_val rfl rfl rfl (by first | exact val_move rfl | exact val_assign rfl) ?_)))
    refine WL_build1 rfl rfl rfl rfl rfl rfl rfl rfl rfl rfl (fun b5 => ?_)
    refine WL_mid ?_
    skip
    refine WL_outBlk rfl rfl rfl rfl .head (bl := [x.current[i]]) (by exact rfl) (by simp) (by decide) (by simp at hb ⊢; omega) (fun g2 => ?_)
    rw [OS.bytes_bytes, show [x.current[i]] = (fun b : UInt8 => [b]) x.current[i] from rfl, ← flatMap_take_succ (fun b : UInt8 => [b]) _ i hlt]
    (repeat (first | (refine WC_region ?_) | (refine WL_nil ?_) | (refine WL_val rfl rfl rfl (by first | exact val_move rfl | (apply val_addI; exact rfl; exact rfl; omega; omega)) ?_)))
    exact QX_againS (i + 1, g2) (by simp; omega) (by simp; omega) ⟨rfl, rfl, rfl, rfl, rfl, rfl, trivial⟩ (by repeat (first | exact Sel.nil | refine Sel.cons (by repeat (first | exact .head | apply Pick.tail | apply Put.tail)) ?_))
  have hi8 : i = x.current.length := by have := of_decide_eq_false hf; omega
  subst hi8
  clear hf hi
  rw [show x.current.take x.current.length = x.current from List.take_length]
  have hb := flatMap_take_le (fun b : UInt8 => [b]) 1 x.current x.current.length (fun _ => by simp)
  rw [List.take_length] at hb
  (repeat (first | (refine WC_region ?_) | (refine WC_exit ?_) | (refine WL_val rfl rfl rfl (by exact val_move rfl) ?_)))
  refine WL_outDone rfl rfl rfl (OS.Ok.init.bytes _) (by simp) (by simp at hb ⊢; omega) (fun p c => ?_)
  have e : (OS.init.bytes (x.current.flatMap (fun b : UInt8 => [b]))).done = x.current.flatMap (fun b : UInt8 => [b]) := by rw [OS.done_flat (by simp) (by simp)]; simp
  rw [e]
  clear e
  (repeat (refine WL_val rfl rfl rfl (by exact val_extract rfl rfl) ?_))
  refine WL_mid ?_
  skip
  refine WL_laterSl (er := 0) rfl rfl rfl rfl rfl .head rfl (by have := k7; omega) (by have := k7; omega) (by have := k7; omega) (by have := k7; omega) (fun g => ?_)
  have k8 : (s7.later (x.current.flatMap (fun b : UInt8 => [b])) 0).head.length ≤ 10332 ∧ (s7.later (x.current.flatMap (fun b : UInt8 => [b])) 0).rest.length ≤ 10408944640 ∧ (s7.later (x.current.flatMap (fun b : UInt8 => [b])) 0).holes.length ≤ 103 ∧ (s7.later (x.current.flatMap (fun b : UInt8 => [b])) 0).ends.length ≤ 103 := by have := k7; simp only [OS.later_head, OS.later_rest, OS.later_holes, OS.later_ends, List.length_append, List.length_cons, List.length_nil]; omega
  generalize hs8 : (s7.later (x.current.flatMap (fun b : UInt8 => [b])) 0) = s8 at k8 ⊢
  (repeat (first | (refine WC_seq ?_) | (refine WC_region ?_) | (refine WL_val rfl rfl rfl (by first | exact val_move rfl | exact val_fieldAddr0 rfl | exact val_nilCheck rfl | exact val_slice_arr rfl) ?_)))
  refine WL_enc (bl := bitsV x.bits.toList) (k := 1) rfl rfl rfl (fun w hm => ?_) (fun p c => ?_)
  · have := bitsVector w x.bits.toList (.slice (some ⟨xb, 989, none⟩) 4 4) ?_ (by simp)
    · simpa using this
    · have h := (SlRd.blk (k := 4) (m := 4) (c := 4) (sz := 1) (o := 989) (vs := boolsV x.bits) (Pick.right (Δ := outΔ o g s8) .head) (by exact rfl) rfl (Nat.le_refl _) (by simp [boolsV])).at hm
      simpa [boolsV, bools] using h
  refine WL_mid ?_
  skip
  refine WL_outSl rfl rfl rfl rfl .head (by simp) (by have := k8; omega) (fun g => ?_)
  have k9 : (s8.bytes (bitsV x.bits.toList)).head.length ≤ 10333 ∧ (s8.bytes (bitsV x.bits.toList)).rest.length ≤ 10408944640 ∧ (s8.bytes (bitsV x.bits.toList)).holes.length ≤ 103 ∧ (s8.bytes (bitsV x.bits.toList)).ends.length ≤ 103 := by have := k8; simp; omega
  generalize hs9 : (s8.bytes (bitsV x.bits.toList)) = s9 at k9 ⊢
  (repeat (first | (refine WC_seq ?_) | (refine WC_region ?_) | (refine WL_val rfl rfl rfl (by first | exact val_move rfl | exact val_fieldAddr0 rfl | (apply val_load_blk_agg; exact rfl; (repeat (first | exact .head | apply Pick.tail)); exact rfl) | exact val_nilCheck rfl) ?_)))
  refine WL_enc rfl rfl rfl (fun w _ => smallEncCheckpoint w x.oldJust) (fun p c => ?_)
  refine WL_mid ?_
  skip
  refine WL_outSl rfl rfl rfl rfl .head (by simp) (by have := k9; omega) (fun g => ?_)
  have k10 : (s9.bytes (encCheckpoint x.oldJust)).head.length ≤ 10373 ∧ (s9.bytes (encCheckpoint x.oldJust)).rest.length ≤ 10408944640 ∧ (s9.bytes (encCheckpoint x.oldJust)).holes.length ≤ 103 ∧ (s9.bytes (encCheckpoint x.oldJust)).ends.length ≤ 103 := by have := k9; simp; omega
  generalize hs10 : (s9.bytes (encCheckpoint x.oldJust)) = s10 at k10 ⊢
  (repeat (first | (refine WC_seq ?_) | (refine WC_region ?_) | (refine WL_val rfl rfl rfl (by first | exact val_move rfl | exact val_fieldAddr0 rfl | (apply val_load_blk_agg; exact rfl; (repeat (first | exact .head | apply Pick.tail)); exact rfl) | exact val_nilCheck rfl) ?_)))
  refine WL_enc rfl rfl rfl (fun w _ => smallEncCheckpoint w x.just) (fun p c => ?_)
  refine WL_mid ?_
  skip
  refine WL_outSl rfl rfl rfl rfl .head (by simp) (by have := k10; omega) (fun g => ?_)
  have k11 : (s10.bytes (encCheckpoint x.just)).head.length ≤ 10413 ∧ (s10.bytes (encCheckpoint x.just)).rest.length ≤ 10408944640 ∧ (s10.bytes (encCheckpoint x.just)).holes.length ≤ 103 ∧ (s10.bytes (encCheckpoint x.just)).ends.length ≤ 103 := by have := k10; simp; omega
  generalize hs11 : (s10.bytes (encCheckpoint x.just)) = s11 at k11 ⊢
  (repeat (first | (refine WC_region ?_) | (refine WL_val rfl rfl rfl (by first | exact val_move rfl | exact val_fieldAddr0 rfl | (apply val_load_blk_agg; exact rfl; (repeat (first | exact .head | apply Pick.tail)); exact rfl) | exact val_nilCheck rfl) ?_)))
  refine WL_enc rfl rfl rfl (fun w _ => smallEncCheckpoint w x.final) (fun p c => ?_)
  refine WL_mid ?_
  skip
  refine WL_outSl rfl rfl rfl rfl .head (by simp) (by have := k11; omega) (fun g => ?_)
  have k12 : (s11.bytes (encCheckpoint x.final)).head.length ≤ 10453 ∧ (s11.bytes (encCheckpoint x.final)).rest.length ≤ 10408944640 ∧ (s11.bytes (encCheckpoint x.final)).holes.length ≤ 103 ∧ (s11.bytes (encCheckpoint x.final)).ends.length ≤ 103 := by have := k11; simp; omega
  generalize hs12 : (s11.bytes (encCheckpoint x.final)) = s12 at k12 ⊢
  (repeat (refine WL_nil ?_))
  refine QX_end (l := []) rfl .nil ?_
  intro w' hw'
  subst hs12 hs11 hs10 hs9 hs8 hs7 hs6 hs5 hs4 hs3 hs2 hs1
  exact gives g hw' trivial rfl (by repeat (first | exact Sel.nil | refine Sel.cons (by repeat (first | exact .head | apply Pick.tail | apply Put.tail)) ?_))

end Go.PK

/- The writer of states, in three parts. Written by a program (genst.py). -/
namespace Go.PK
open Go.Proofs

/-- what encState3 writes -/
def st3 (x : StateD) (s : OS) : OS := ((((s.failIf (decide (65536 < x.scores.length)) 6).later (x.scores.flatMap (fun n : UInt64 => le8 n.toNat)) 0).bytes (encCommittee x.sync)).bytes (encCommittee x.nextSync))

set_option maxHeartbeats 4000000 in
theorem encState3 (w : World) (o xb : Nat) (g : O4) (s : OS) (x : StateD) (a : Addrs) (S : List Nat) (hm : Mem (outΔ o g s ++ [.blk xb (stateS x a) 49]) S w w) (hL : ListsAt w S x a) (hz : x.Small)
    (h1 : s.head.length ≤ 10000) (h2 : s.rest.length ≤ 10000000000) (h3 : s.holes.length ≤ 100) (h4 : s.ends.length ≤ 100) :
    Calls Try.prog 20 [.pointer (some ⟨o, 0, none⟩), .pointer (some ⟨xb, 0, none⟩)].toArray w (Gives (fun _ : O4 => True) (fun _ => .tuple #[]) (fun g => outΔ o g (st3 x s) ++ [.blk xb (stateS x a) 49]) S w) := by
  obtain ⟨z1, z2, z3, z4, z5, z6, z7⟩ := hz
  refine calls_enter (fn := Try.f20) Try.func20 rfl Try.ntmps20 rfl hm ?_
  have k0 : s.head.length ≤ 10000 ∧ s.rest.length ≤ 10000000000 ∧ s.holes.length ≤ 100 ∧ s.ends.length ≤ 100 := ⟨h1, h2, h3, h4⟩
  (repeat (first | (refine WC_seq ?_) | (refine WC_region ?_) | (refine WL_nil ?_) | (refine QX_then ?_) | (refine WL_val rfl rfl rfl (by first | exact val_move rfl | exact val_fieldAddr0 rfl | (apply val_load_blk; exact rfl; (repeat (first | exact .head | apply Pick.tail)); exact rfl) | exact val_nilCheck rfl | exact val_len rfl | exact val_gtr rfl rfl) ?_)))
  refine WC_cut (G := O4) (fun _ => True) (fun _ => [(0, .pointer (some ⟨o, 0, none⟩)), (1, .pointer (some ⟨xb, 0, none⟩))]) (fun g => outΔ o g (s.failIf (decide (65536 < x.scores.length)) 6) ++ [.blk xb (stateS x a) 49]) ?_ (fun g _ => ?_)
  · refine WC_cond rfl (fun ht => ?_) (fun hf => ?_)
    · have hd : 65536 < x.scores.length := by have := of_decide_eq_true ht; omega
      have ee : s.failIf (decide (65536 < x.scores.length)) 6 = s.fail 6 := by simp [OS.failIf, hd]
      (repeat (first | (refine WC_region ?_) | (refine WL_val rfl rfl rfl (by exact val_move rfl) ?_)))
      refine WL_outFail rfl rfl rfl rfl (fun g2 => ?_)
      (repeat (refine WL_nil ?_))
      rw [← ee]
      exact QX_join g2 trivial ⟨rfl, rfl, trivial⟩ (by repeat (first | exact Sel.nil | refine Sel.cons (by repeat (first | exact .head | apply Pick.tail | apply Put.tail)) ?_))
    · have hd : ¬ 65536 < x.scores.length := by have := of_decide_eq_false hf; omega
      have ee : s.failIf (decide (65536 < x.scores.length)) 6 = s := by simp [OS.failIf, hd]
      (repeat (refine WC_skip ?_))
      refine QX_join g trivial ⟨rfl, rfl, trivial⟩ ?_
      rw [ee]
      exact (by repeat (first | exact Sel.nil | refine Sel.cons (by repeat (first | exact .head | apply Pick.tail | apply Put.tail)) ?_))
  have k1 : (s.failIf (decide (65536 < x.scores.length)) 6).head.length ≤ 10000 ∧ (s.failIf (decide (65536 < x.scores.length)) 6).rest.length ≤ 10000000000 ∧ (s.failIf (decide (65536 < x.scores.length)) 6).holes.length ≤ 100 ∧ (s.failIf (decide (65536 < x.scores.length)) 6).ends.length ≤ 100 := by have := k0; simp; omega
  generalize hs1 : (s.failIf (decide (65536 < x.scores.length)) 6) = s1 at k1 ⊢
  (repeat (first | (refine WC_seq ?_) | (refine WC_region ?_)))
  (first | (refine WL_alloc rfl rfl (fun bl => ?_)) | (refine WL_box_agg rfl rfl rfl inferInstance (fun bl => ?_)) | (refine WL_box rfl rfl rfl rfl (fun bl => ?_)))
  refine WL_out0 .head ?_
  (repeat (first | (refine WC_seq ?_) | (refine WC_block ?_) | (refine WC_region ?_) | (refine WL_val rfl rfl rfl (by first | exact val_move rfl | exact val_fieldAddr0 rfl | (apply val_load_blk; exact rfl; (repeat (first | exact .head | apply Pick.tail)); exact rfl) | exact val_nilCheck rfl | exact val_len rfl) ?_)))
  refine WC_loopS (G := Nat × O4) (fun i => i.1 ≤ x.scores.length) (fun i => [(0, .pointer (some ⟨o, 0, none⟩)), (1, .pointer (some ⟨xb, 0, none⟩)), (4, .pointer (some ⟨bl, 0, none⟩)), (18, a.scores.sl x.scores.length), (19, .int .i64 x.scores.length), (20, .int .i64 i.1)])
    (fun i => outΔ bl i.2 (OS.init.bytes ((x.scores.take i.1).flatMap (fun n : UInt64 => le8 n.toNat))) ++ (outΔ o g s1 ++ [.blk xb (stateS x a) 49])) (fun i => x.scores.length - i.1) (0, O4.none) (Nat.zero_le _) ⟨rfl, rfl, rfl, rfl, rfl, rfl, trivial⟩ (by repeat (first | exact Sel.nil | refine Sel.cons (by repeat (first | exact .head | apply Pick.tail | apply Put.tail)) ?_)) ?_
  intro ⟨i, gl⟩ hi
  dsimp only at hi ⊢
  (repeat (first | (refine WC_seq ?_) | (refine WC_region ?_) | (refine WL_val rfl rfl rfl (by exact val_lss rfl rfl) ?_)))
  refine WC_cond rfl (fun ht => ?_) (fun hf => ?_)
  · have hlt : i < x.scores.length := by have := of_decide_eq_true ht; omega
    have hb := flatMap_take_le (fun n : UInt64 => le8 n.toNat) 8 x.scores i (fun _ => by simp)
    obtain ⟨b, oo, hp, hr⟩ := SlV.posOld hL.scores.1 hL.scores.2 (by omega) (by decide)
    (repeat (first | (refine WC_seq ?_) | (refine WC_block ?_) | (refine WC_region ?_) | (refine WC_skip ?_)))
    refine WL_val rfl rfl rfl (val_indexAddrP1 hp rfl rfl hlt) ?_
    refine WL_val rfl rfl rfl (val_load_at (v := u64 x.scores[i]) rfl (hr _) (by simp [hlt])) ?_
    (repeat (first | (refine WC_region ?_) | (refine WL_val rfl rfl rfl (by first | exact val_move rfl | exact val_assign rfl) ?_)))
    refine WL_outU64 rfl rfl rfl rfl (by simp at hb ⊢; omega) (fun g2 => ?_)
    rw [OS.u64_eq, OS.bytes_bytes, ← flatMap_take_succ (fun n : UInt64 => le8 n.toNat) _ i hlt]
    (repeat (first | (refine WC_region ?_) | (refine WL_nil ?_) | (refine WL_val rfl rfl rfl (by first | exact val_move rfl | (apply val_addI; exact rfl; exact rfl; omega; omega)) ?_)))
    exact QX_againS (i + 1, g2) (by simp; omega) (by simp; omega) ⟨rfl, rfl, rfl, rfl, rfl, rfl, trivial⟩ (by repeat (first | exact Sel.nil | refine Sel.cons (by repeat (first | exact .head | apply Pick.tail | apply Put.tail)) ?_))
  have hi8 : i = x.scores.length := by have := of_decide_eq_false hf; omega
  subst hi8
  clear hf hi
  rw [show x.scores.take x.scores.length = x.scores from List.take_length]
  have hb := flatMap_take_le (fun n : UInt64 => le8 n.toNat) 8 x.scores x.scores.length (fun _ => by simp)
  rw [List.take_length] at hb
  (repeat (first | (refine WC_region ?_) | (refine WC_exit ?_) | (refine WL_val rfl rfl rfl (by exact val_move rfl) ?_)))
  refine WL_outDone rfl rfl rfl (OS.Ok.init.bytes _) (by simp) (by simp at hb ⊢; omega) (fun p c => ?_)
  have e : (OS.init.bytes (x.scores.flatMap (fun n : UInt64 => le8 n.toNat))).done = x.scores.flatMap (fun n : UInt64 => le8 n.toNat) := by rw [OS.done_flat (by simp) (by simp)]; simp
  rw [e]
  clear e
  (repeat (refine WL_val rfl rfl rfl (by exact val_extract rfl rfl) ?_))
  refine WL_mid ?_
  skip
  refine WL_laterSl (er := 0) rfl rfl rfl rfl rfl .head rfl (by have := k1; omega) (by have := k1; omega) (by have := k1; omega) (by have := k1; omega) (fun g => ?_)
  have k2 : (s1.later (x.scores.flatMap (fun n : UInt64 => le8 n.toNat)) 0).head.length ≤ 10004 ∧ (s1.later (x.scores.flatMap (fun n : UInt64 => le8 n.toNat)) 0).rest.length ≤ 10136314880 ∧ (s1.later (x.scores.flatMap (fun n : UInt64 => le8 n.toNat)) 0).holes.length ≤ 101 ∧ (s1.later (x.scores.flatMap (fun n : UInt64 => le8 n.toNat)) 0).ends.length ≤ 101 := by have := k1; simp only [OS.later_head, OS.later_rest, OS.later_holes, OS.later_ends, List.length_append, List.length_cons, List.length_nil]; omega
  generalize hs2 : (s1.later (x.scores.flatMap (fun n : UInt64 => le8 n.toNat)) 0) = s2 at k2 ⊢
  (repeat (first | (refine WC_seq ?_) | (refine WC_region ?_) | (refine WL_val rfl rfl rfl (by first | exact val_move rfl | exact val_fieldAddr0 rfl | (apply val_load_blk_agg; exact rfl; (repeat (first | exact .head | apply Pick.tail)); exact rfl) | exact val_nilCheck rfl) ?_)))
  refine WL_enc rfl rfl rfl (fun w _ => smallEncCommittee w x.sync) (fun p c => ?_)
  refine WL_mid ?_
  skip
  refine WL_outSl rfl rfl rfl rfl .head (by simp) (by have := k2; omega) (fun g => ?_)
  have k3 : (s2.bytes (encCommittee x.sync)).head.length ≤ 10436 ∧ (s2.bytes (encCommittee x.sync)).rest.length ≤ 10136314880 ∧ (s2.bytes (encCommittee x.sync)).holes.length ≤ 101 ∧ (s2.bytes (encCommittee x.sync)).ends.length ≤ 101 := by have := k2; simp; omega
  generalize hs3 : (s2.bytes (encCommittee x.sync)) = s3 at k3 ⊢
  (repeat (first | (refine WC_region ?_) | (refine WL_val rfl rfl rfl (by first | exact val_move rfl | exact val_fieldAddr0 rfl | (apply val_load_blk_agg; exact rfl; (repeat (first | exact .head | apply Pick.tail)); exact rfl) | exact val_nilCheck rfl) ?_)))
  refine WL_enc rfl rfl rfl (fun w _ => smallEncCommittee w x.nextSync) (fun p c => ?_)
  refine WL_mid ?_
  skip
  refine WL_outSl rfl rfl rfl rfl .head (by simp) (by have := k3; omega) (fun g => ?_)
  have k4 : (s3.bytes (encCommittee x.nextSync)).head.length ≤ 10868 ∧ (s3.bytes (encCommittee x.nextSync)).rest.length ≤ 10136314880 ∧ (s3.bytes (encCommittee x.nextSync)).holes.length ≤ 101 ∧ (s3.bytes (encCommittee x.nextSync)).ends.length ≤ 101 := by have := k3; simp; omega
  generalize hs4 : (s3.bytes (encCommittee x.nextSync)) = s4 at k4 ⊢
  (repeat (refine WL_nil ?_))
  refine QX_end (l := []) rfl .nil ?_
  intro w' hw'
  subst hs4 hs3 hs2 hs1
  exact gives g hw' trivial rfl (by repeat (first | exact Sel.nil | refine Sel.cons (by repeat (first | exact .head | apply Pick.tail | apply Put.tail)) ?_))

end Go.PK

/- EncState: the whole writer. -/
namespace Go.PK
open Go.Proofs

theorem len_root (l : List Root) : (l.flatMap (fun r : Root => r.toList)).length = l.length * 32 := flatMap_length_const _ 32 l (fun x _ => by simp)
theorem len_eth1 (l : List Eth1) : (l.flatMap encEth1).length = l.length * 72 := flatMap_length_const _ 72 l (fun x _ => by simp)
theorem len_val (l : List Validator) : (l.flatMap encValidator).length = l.length * 121 := flatMap_length_const _ 121 l (fun x _ => by simp)
theorem len_u64 (l : List UInt64) : (l.flatMap (fun n : UInt64 => le8 n.toNat)).length = l.length * 8 := flatMap_length_const _ 8 l (fun x _ => by simp)
theorem len_byte (l : List UInt8) : (l.flatMap (fun b : UInt8 => [b])).length = l.length * 1 := flatMap_length_const _ 1 l (fun x _ => by simp)

@[simp] theorem OS.Ok.failIf {s : OS} (h : s.Ok) (b : Bool) (e : Int) : (s.failIf b e).Ok := by cases b; exact h; exact h.fail e

theorem st1_head (x : StateD) (s : OS) : (st1 x s).head.length = s.head.length + 780 := by simp [st1, rows_length]
theorem st1_rest (x : StateD) (s : OS) : (st1 x s).rest.length = s.rest.length + x.history.length * 32 + x.votes.length * 72 + x.validators.length * 121 := by simp only [st1, OS.later_rest, OS.u64_eq, OS.bytes_rest, OS.failIf_rest, List.length_append, len_root, len_eth1, len_val]
theorem st1_holes (x : StateD) (s : OS) : (st1 x s).holes.length = s.holes.length + 3 := by simp [st1]
theorem st1_ends (x : StateD) (s : OS) : (st1 x s).ends.length = s.ends.length + 3 := by simp [st1]
theorem st1_ok (x : StateD) {s : OS} (h : s.Ok) : (st1 x s).Ok := (((((((((((((((h.u64 _).bytes _).u64 _).bytes _).bytes _).bytes _).bytes _).failIf _ _).later _ _).bytes _).failIf _ _).later _ _).u64 _).failIf _ _).later _ _)
theorem st2_head (x : StateD) (s : OS) : (st2 x s).head.length = s.head.length + 453 := by simp [st2, rows_length, -List.length_flatMap, len_u64]
theorem st2_rest (x : StateD) (s : OS) : (st2 x s).rest.length = s.rest.length + x.balances.length * 8 + x.previous.length * 1 + x.current.length * 1 := by simp only [st2, OS.later_rest, OS.bytes_rest, OS.failIf_rest, List.length_append, len_u64, len_byte]
theorem st2_holes (x : StateD) (s : OS) : (st2 x s).holes.length = s.holes.length + 3 := by simp [st2]
theorem st2_ends (x : StateD) (s : OS) : (st2 x s).ends.length = s.ends.length + 3 := by simp [st2]
theorem st2_ok (x : StateD) {s : OS} (h : s.Ok) : (st2 x s).Ok := ((((((((((((h.failIf _ _).later _ _).bytes _).bytes _).failIf _ _).later _ _).failIf _ _).later _ _).bytes _).bytes _).bytes _).bytes _)
theorem st3_head (x : StateD) (s : OS) : (st3 x s).head.length = s.head.length + 868 := by simp [st3]
theorem st3_rest (x : StateD) (s : OS) : (st3 x s).rest.length = s.rest.length + x.scores.length * 8 := by simp only [st3, OS.later_rest, OS.bytes_rest, OS.failIf_rest, List.length_append, len_u64]
theorem st3_holes (x : StateD) (s : OS) : (st3 x s).holes.length = s.holes.length + 1 := by simp [st3]
theorem st3_ok (x : StateD) {s : OS} (h : s.Ok) : (st3 x s).Ok := (((h.failIf _ _).later _ _).bytes _).bytes _

/-- the writer's state behind all parts -/
def stAll (x : StateD) : OS := st3 x (st2 x (st1 x OS.init))
/-- the bytes of a state -/
def encState (x : StateD) : List UInt8 := (stAll x).done

theorem stAll_head (x : StateD) : (stAll x).head.length = 2101 := by simp [stAll, st1_head, st2_head, st3_head]
theorem stAll_rest (x : StateD) : (stAll x).rest.length = x.history.length * 32 + x.votes.length * 72 + x.validators.length * 121 + x.balances.length * 8 + x.previous.length * 1 + x.current.length * 1 + x.scores.length * 8 := by
  simp [stAll, st1_rest, st2_rest, st3_rest]
theorem stAll_ok (x : StateD) : (stAll x).Ok := st3_ok x (st2_ok x (st1_ok x OS.Ok.init))

theorem encStateW (w : World) (x : StateD) (a : Addrs) (hL : ListsAt w [] x a) (hz : x.Small) :
    Calls Try.prog 12 [aggS (stateS x a)].toArray w
      (Gives (fun _ : Option Addr × Nat => True) (fun g => .tuple #[.slice g.1 (encState x).length g.2, .int .i64 (stAll x).err]) (fun g => [.sl (.slice g.1 (encState x).length g.2) (encState x).length (bs (encState x)) 5 1]) [] w) := by
  refine calls_enter (fn := Try.f12) Try.func12 rfl Try.ntmps12 rfl (mem0 w) ?_
  obtain ⟨z1, z2, z3, z4, z5, z6, z7⟩ := id hz
  (repeat (first | (refine WC_seq ?_) | (refine WC_region ?_)))
  (first | (refine WL_alloc rfl rfl (fun b1 => ?_)) | (refine WL_box_agg rfl rfl rfl inferInstance (fun b1 => ?_)) | (refine WL_box rfl rfl rfl rfl (fun b1 => ?_)))
  (repeat (first | (refine WC_seq ?_) | (refine WC_region ?_) | (refine WL_val rfl rfl rfl (by exact val_assign rfl) ?_)))
  (first | (refine WL_alloc rfl rfl (fun b4 => ?_)) | (refine WL_box_agg rfl rfl rfl inferInstance (fun b4 => ?_)) | (refine WL_box rfl rfl rfl rfl (fun b4 => ?_)))
  refine WL_out0 .head ?_
  (repeat (first | (refine WC_seq ?_) | (refine WC_region ?_)))
  refine WL_call rfl rfl rfl (by repeat (first | exact Take.nil | apply Take.cons (by repeat (first | exact .head | apply Pick.tail | apply Put.tail)))) (fun w' hw' hd => encState1 w' b4 b1 _ OS.init x a _ hd (hL.pass hw' (by repeat (first | exact Take.nil | apply Take.cons (by repeat (first | exact .head | apply Pick.tail | apply Put.tail))))) hz (by simp) (by simp) (by simp) (by simp)) (fun g1 _ => ?_)
  (repeat (first | (refine WC_seq ?_) | (refine WC_region ?_)))
  refine WL_call rfl rfl rfl (by repeat (first | exact Take.nil | apply Take.cons (by repeat (first | exact .head | apply Pick.tail | apply Put.tail)))) (fun w' hw' hd => encState2 w' b4 b1 _ (st1 x OS.init) x a _ hd (hL.pass hw' (by repeat (first | exact Take.nil | apply Take.cons (by repeat (first | exact .head | apply Pick.tail | apply Put.tail))))) hz (by rw [st1_head]; simp) (by rw [st1_rest]; simp; omega) (by rw [st1_holes]; simp) (by rw [st1_ends]; simp)) (fun g2 _ => ?_)
  (repeat (first | (refine WC_seq ?_) | (refine WC_region ?_)))
  refine WL_call rfl rfl rfl (by repeat (first | exact Take.nil | apply Take.cons (by repeat (first | exact .head | apply Pick.tail | apply Put.tail)))) (fun w' hw' hd => encState3 w' b4 b1 _ (st2 x (st1 x OS.init)) x a _ hd (hL.pass hw' (by repeat (first | exact Take.nil | apply Take.cons (by repeat (first | exact .head | apply Pick.tail | apply Put.tail))))) hz (by rw [st2_head, st1_head]; simp) (by rw [st2_rest, st1_rest]; simp; omega) (by rw [st2_holes, st1_holes]; simp) (by rw [st2_ends, st1_ends]; simp)) (fun g3 _ => ?_)
  (repeat (first | (refine WC_seq ?_) | (refine WC_region ?_)))
  refine WL_sel (Δ := outΔ b4 g3 (stAll x) ++ [.blk b1 (stateS x a) 49]) (by repeat (first | exact Sel.nil | refine Sel.cons (by repeat (first | exact .head | apply Pick.tail | apply Put.tail)) ?_)) ?_
  refine WL_outDone rfl rfl rfl (stAll_ok x) (by simp [stAll, st1_holes, st2_holes, st3_holes]) (by rw [stAll_head, stAll_rest]; omega) (fun p c => ?_)
  (repeat (first | (refine WC_ret ?_) | (refine WL_val rfl rfl rfl (by first | exact val_assign rfl | exact val_extract rfl rfl) ?_)))
  refine QX_ret (l := [.tmp 2, .tmp 3]) rfl (.tmp rfl (.tmp rfl .nil)) ?_
  intro w' hw'
  exact gives (p, c) hw' trivial (by simp [packed, encState]) (by repeat (first | exact Sel.nil | refine Sel.cons (by repeat (first | exact .head | apply Pick.tail | apply Put.tail)) ?_))
end Go.PK

/- The bytes of a container as its parts laid side by side: what an Out that was fed part by part gives. Nothing of the program's text stands here. -/
namespace Go.PK

/-- A part with a size, or one that is laid behind. -/
inductive Tok
  | fix (b : List UInt8)
  | var (b : List UInt8)

def OS.tok (s : OS) : Tok → OS
  | .fix b => s.bytes b
  | .var b => s.later b 0
def OS.run (s : OS) (l : List Tok) : OS := l.foldl OS.tok s

/-- four bytes of a number, the lowest first -/
def le4 (n : Nat) : List UInt8 := [UInt8.ofNat (n / 2 ^ (8 * 0)), UInt8.ofNat (n / 2 ^ (8 * 1)), UInt8.ofNat (n / 2 ^ (8 * 2)), UInt8.ofNat (n / 2 ^ (8 * 3))]
@[simp] theorem le4_length (n : Nat) : (le4 n).length = 4 := rfl

/-- the head, the first offset given -/
def layHead : Nat → List Tok → List UInt8
  | _, [] => []
  | o, .fix b :: r => b ++ layHead o r
  | o, .var b :: r => le4 o ++ layHead (o + b.length) r
/-- the parts behind -/
def layRest : List Tok → List UInt8
  | [] => []
  | .fix _ :: r => layRest r
  | .var b :: r => b ++ layRest r
def headLen : List Tok → Nat
  | [] => 0
  | .fix b :: r => b.length + headLen r
  | .var _ :: r => 4 + headLen r
def zeroHead : List Tok → List UInt8
  | [] => []
  | .fix b :: r => b ++ zeroHead r
  | .var _ :: r => [0, 0, 0, 0] ++ zeroHead r

theorem layHead_length : ∀ (l : List Tok) (o : Nat), (layHead o l).length = headLen l
  | [], _ => rfl
  | .fix b :: r, o => by simp [layHead, headLen, layHead_length r]
  | .var b :: r, o => by simp [layHead, headLen, layHead_length r]
theorem zeroHead_length : ∀ (l : List Tok), (zeroHead l).length = headLen l
  | [] => rfl
  | .fix b :: r => by simp [zeroHead, headLen, zeroHead_length r]
  | .var b :: r => by simp [zeroHead, headLen, zeroHead_length r]; omega

theorem run_cons (s : OS) (t : Tok) (l : List Tok) : s.run (t :: l) = (s.tok t).run l := rfl
theorem run_head : ∀ (l : List Tok) (s : OS), (s.run l).head = s.head ++ zeroHead l
  | [], s => by simp [OS.run, zeroHead]
  | .fix b :: r, s => by rw [run_cons, run_head r]; simp [OS.tok, zeroHead]
  | .var b :: r, s => by rw [run_cons, run_head r]; simp [OS.tok, zeroHead]
theorem run_rest : ∀ (l : List Tok) (s : OS), (s.run l).rest = s.rest ++ layRest l
  | [], s => by simp [OS.run, layRest]
  | .fix b :: r, s => by rw [run_cons, run_rest r]; simp [OS.tok, layRest]
  | .var b :: r, s => by rw [run_cons, run_rest r]; simp [OS.tok, layRest]
theorem run_err : ∀ (l : List Tok) (s : OS), (s.run l).err = s.err
  | [], s => rfl
  | .fix b :: r, s => by rw [run_cons, run_err r]; rfl
  | .var b :: r, s => by rw [run_cons, run_err r]; simp only [OS.tok, OS.later, OS.fail]; split <;> simp_all

/-- the pairs of a hole and its offset -/
def OS.pairs (s : OS) (H : Nat) : List (Nat × Nat) := (s.holes.zip s.ends).map fun p => (p.1, H + p.2)
def pairsOf : Nat → Nat → List Tok → List (Nat × Nat)
  | _, _, [] => []
  | at_, o, .fix b :: r => pairsOf (at_ + b.length) o r
  | at_, o, .var b :: r => (at_, o) :: pairsOf (at_ + 4) (o + b.length) r
theorem run_pairs (H : Nat) : ∀ (l : List Tok) (s : OS), s.ends.length = s.holes.length → (s.run l).pairs H = s.pairs H ++ pairsOf s.head.length (H + s.rest.length) l
  | [], s, _ => by simp [OS.run, pairsOf]
  | .fix b :: r, s, h => by rw [run_cons, run_pairs H r (s.tok (.fix b)) h]; simp [OS.tok, OS.pairs, pairsOf]
  | .var b :: r, s, h => by
    rw [run_cons, run_pairs H r _ (by simp [OS.tok, h])]
    simp only [OS.tok, OS.pairs, OS.later_holes, OS.later_ends, OS.later_head, OS.later_rest, pairsOf]
    rw [List.zip_append h.symm, List.map_append, List.append_assoc]
    simp [Nat.add_assoc]

theorem fill_pairs (s : OS) (h : s.ends.length = s.holes.length) : s.fill s.holes.length = (s.pairs s.head.length).foldl (fun a p => putK a p.1 p.2 4) s.head := by
  have key : ∀ (n : Nat), n ≤ s.holes.length → s.fill n = ((s.pairs s.head.length).take n).foldl (fun a p => putK a p.1 p.2 4) s.head := by
    intro n
    induction n with
    | zero => intro _; rfl
    | succ n ih =>
      intro hn
      have hl : n < (s.pairs s.head.length).length := by simp [OS.pairs]; omega
      rw [OS.fill_succ, ih (by omega), List.take_succ_eq_append_getElem hl, List.foldl_append]
      simp [OS.pairs, show n < s.holes.length from by omega, show n < s.ends.length from by omega]
  have := key _ (Nat.le_refl _)
  rw [this, List.take_of_length_le (by simp [OS.pairs]; omega)]

theorem putK_mid (a b : List UInt8) (n : Nat) : putK (a ++ [0, 0, 0, 0] ++ b) a.length n 4 = a ++ le4 n ++ b := by
  simp only [putK, List.range, List.range.loop, List.foldl, le4]
  simp [List.append_assoc]

theorem fill_toks : ∀ (l : List Tok) (a : List UInt8) (o : Nat), (pairsOf a.length o l).foldl (fun x p => putK x p.1 p.2 4) (a ++ zeroHead l) = a ++ layHead o l
  | [], a, o => by simp [pairsOf, zeroHead, layHead]
  | .fix b :: r, a, o => by
    have := fill_toks r (a ++ b) o
    simpa [pairsOf, zeroHead, layHead, List.append_assoc] using this
  | .var b :: r, a, o => by
    have := fill_toks r (a ++ le4 o) (o + b.length)
    simp only [pairsOf, zeroHead, layHead, List.foldl_cons]
    rw [show a ++ ([0, 0, 0, 0] ++ zeroHead r) = a ++ [0, 0, 0, 0] ++ zeroHead r from by simp, putK_mid]
    rw [List.length_append, le4_length] at this
    rw [this, List.append_assoc]

/-- What Done gives behind parts. -/
theorem done_toks (l : List Tok) : (OS.init.run l).done = layHead (headLen l) l ++ layRest l := by
  have he : (OS.init.run l).err = 0 := run_err l _
  have hh : (OS.init.run l).head = zeroHead l := by rw [run_head]; simp
  have hok : (OS.init.run l).ends.length = (OS.init.run l).holes.length := by
    have : ∀ (l : List Tok) (s : OS), s.ends.length = s.holes.length → (s.run l).ends.length = (s.run l).holes.length := by
      intro l
      induction l with
      | nil => intro s h; exact h
      | cons t r ih => intro s h; rw [run_cons]; apply ih; cases t <;> simp [OS.tok, h]
    exact this l _ rfl
  rw [OS.done, if_pos he, fill_pairs _ hok, run_pairs _ l _ rfl, hh, run_rest, zeroHead_length]
  have := fill_toks l [] (headLen l)
  simp only [List.nil_append, List.length_nil] at this
  simp [OS.pairs, this]

/-! ## A state's parts -/
def stToks (x : StateD) : List Tok :=
  [.fix (le8 x.genesis.toNat), .fix x.groot.toList, .fix (le8 x.slot.toNat), .fix (encFork x.fork), .fix (encHeader x.header), .fix (rows x.blockRoots.toList), .fix (rows x.stateRoots.toList),
   .var (x.history.flatMap (fun r : Root => r.toList)), .fix (encEth1 x.eth1), .var (x.votes.flatMap encEth1), .fix (le8 x.deposits.toNat), .var (x.validators.flatMap encValidator),
   .var (x.balances.flatMap (fun n : UInt64 => le8 n.toNat)), .fix (rows x.mixes.toList), .fix (x.slashings.toList.flatMap (fun n : UInt64 => le8 n.toNat)), .var (x.previous.flatMap (fun b : UInt8 => [b])), .var (x.current.flatMap (fun b : UInt8 => [b])),
   .fix (bitsV x.bits.toList), .fix (encCheckpoint x.oldJust), .fix (encCheckpoint x.just), .fix (encCheckpoint x.final), .var (x.scores.flatMap (fun n : UInt64 => le8 n.toNat)), .fix (encCommittee x.sync), .fix (encCommittee x.nextSync)]

/-- No list is too long. -/
structure StateD.Fits (x : StateD) : Prop where
  history : x.history.length ≤ 1024
  votes : x.votes.length ≤ 8
  validators : x.validators.length ≤ 65536
  balances : x.balances.length ≤ 65536
  previous : x.previous.length ≤ 65536
  current : x.current.length ≤ 65536
  scores : x.scores.length ≤ 65536

theorem stAll_toks (x : StateD) (h : x.Fits) : stAll x = OS.init.run (stToks x) := by
  obtain ⟨h1, h2, h3, h4, h5, h6, h7⟩ := h
  simp only [stAll, st1, st2, st3, OS.failIf, show decide (1024 < x.history.length) = false from by simp; omega, show decide (8 < x.votes.length) = false from by simp; omega, show decide (65536 < x.validators.length) = false from by simp; omega,
    show decide (65536 < x.balances.length) = false from by simp; omega, show decide (65536 < x.previous.length) = false from by simp; omega, show decide (65536 < x.current.length) = false from by simp; omega, show decide (65536 < x.scores.length) = false from by simp; omega]
  rfl

theorem encState_toks (x : StateD) (h : x.Fits) : encState x = layHead 2101 (stToks x) ++ layRest (stToks x) := by
  have hl : headLen (stToks x) = 2101 := by simp [stToks, headLen, rows_length, -List.length_flatMap, len_u64]
  rw [encState, stAll_toks x h, done_toks, hl]
end Go.PK

/- The reader of containers (package wire's In), where nothing is wrong: contracts over a plain state of it. -/
namespace Go.PK
open Go.Proofs

/-- the number that the first i bytes tell, the lowest first -/
def rdTo (l : List UInt8) : Nat → Nat
  | 0 => 0
  | i + 1 => rdTo l i + (l.getD i 0).toNat * 2 ^ (8 * i)
theorem rdTo_lt (l : List UInt8) : ∀ i, rdTo l i < 2 ^ (8 * i)
  | 0 => by simp [rdTo]
  | i + 1 => by
    have h1 := rdTo_lt l i
    have h2 := (l.getD i 0).toNat_lt
    have h3 : (l.getD i 0).toNat * 2 ^ (8 * i) ≤ 255 * 2 ^ (8 * i) := Nat.mul_le_mul_right _ (by omega)
    rw [rdTo, show 8 * (i + 1) = 8 * i + 8 from by omega, Nat.pow_add]
    omega
theorem rdTo_or (l : List UInt8) (i : Nat) : rdTo l i ||| (l.getD i 0).toNat * 2 ^ (8 * i) = rdTo l (i + 1) := by
  have := Nat.two_pow_add_eq_or_of_lt (rdTo_lt l i) (l.getD i 0).toNat
  rw [rdTo, Nat.or_comm, Nat.mul_comm, ← this, Nat.add_comm]

theorem wordRead (w : World) (v : Value) (l : List UInt8) (hv : SlAt w 1 v 8 (bs l)) (hl : l.length = 8) :
    Calls Try.prog 56 [v].toArray w (Gives (fun _ : Unit => True) (fun _ => .tuple #[.int .u64 (rdTo l 8), .int .i64 0]) (fun _ => []) [] w) := by
  obtain ⟨b, o, c, rfl, hc, hr, _⟩ := hv.pos (by decide)
  have hr : ∀ Γ, Rd Γ [] w b o (bs l) := fun Γ => Rd.old hr (rangeAt_lt hr (by intro h; simp [bs] at h; subst h; simp at hl)) (by simp)
  refine calls_enter (fn := Try.f56) Try.func56 rfl Try.ntmps56 rfl (mem0 w) ?_
  (repeat (first | (refine WC_seq ?_) | (refine WC_block ?_) | (refine WC_region ?_) | (refine WC_skip ?_) | (refine WL_nil ?_) | (refine QX_then ?_) | (refine WC_cond_false rfl ?_) | (refine WL_val rfl rfl rfl (by first | exact val_move rfl | exact val_assign rfl | exact val_len rfl | exact val_neq rfl rfl) ?_)))
  refine WC_loopS (G := Nat) (fun i => i ≤ 8) (fun i => [(4, .int .u64 (rdTo l i)), (10, .slice (some ⟨b, o, none⟩) 8 c), (11, .int .i64 8), (12, .int .i64 i)]) (fun _ => []) (fun i => 8 - i) 0 (Nat.zero_le _) ⟨rfl, rfl, rfl, rfl, trivial⟩ (by repeat (first | exact Sel.nil | refine Sel.cons (by repeat (first | exact .head | apply Pick.tail | apply Put.tail)) ?_)) ?_
  intro i hi
  (repeat (first | (refine WC_seq ?_) | (refine WC_region ?_) | (refine WL_val rfl rfl rfl (by exact val_lss rfl rfl) ?_)))
  refine WC_cond rfl (fun ht => ?_) (fun hf => ?_)
  · have hlt : i < 8 := by have := of_decide_eq_true ht; omega
    have hp : 2 ^ (8 * i) ≤ 2 ^ 56 := Nat.pow_le_pow_right (by decide) (by omega)
    have hb := (l.getD i 0).toNat_lt
    have h1 := rdTo_lt l i
    have h3 : (l.getD i 0).toNat * 2 ^ (8 * i) ≤ 255 * 2 ^ (8 * i) := Nat.mul_le_mul_right _ (by omega)
    (repeat (first | (refine WC_seq ?_) | (refine WC_block ?_) | (refine WC_region ?_) | (refine WC_skip ?_) | (refine WL_val rfl rfl rfl (by exact val_move rfl) ?_)))
    refine WL_val rfl rfl rfl (val_indexAddrN1 rfl rfl hlt) ?_
    refine WL_val rfl rfl rfl (val_load_at (v := by8 (l.getD i 0)) rfl (hr _) (by simp [bs, hl, hlt])) ?_
    (repeat (first | (refine WC_region ?_) | (refine WL_val rfl rfl rfl (by first | exact val_move rfl | exact val_assign rfl) ?_)))
    refine WL_val rfl rfl rfl (val_convU8u rfl) ?_
    (repeat (refine WL_val rfl rfl rfl (by first | exact val_move rfl | (apply val_mulI; exact rfl; exact rfl; omega; omega)) ?_))
    refine WL_val rfl rfl rfl (val_shlU (s := 8 * i) rfl rfl (by omega) (by omega)) ?_
    refine WL_val rfl rfl rfl (val_orU rfl rfl (by omega) (by omega)) ?_
    rw [rdTo_or]
    (repeat (first | (refine WC_region ?_) | (refine WL_nil ?_) | (refine WL_val rfl rfl rfl (by first | exact val_move rfl | exact val_assign rfl | (apply val_addI; exact rfl; exact rfl; omega; omega)) ?_)))
    exact QX_againS (i + 1) (by omega) (by omega) ⟨rfl, rfl, rfl, rfl, trivial⟩ (by repeat (first | exact Sel.nil | refine Sel.cons (by repeat (first | exact .head | apply Pick.tail | apply Put.tail)) ?_))
  · have hi8 : i = 8 := by have := of_decide_eq_false hf; omega
    subst hi8
    (repeat (first | (refine WC_seq ?_) | (refine WC_region ?_) | (refine WC_ret ?_) | (refine WC_exit ?_) | (refine WL_val rfl rfl rfl (by first | exact val_move rfl | exact val_assign rfl) ?_)))
    refine QX_ret (l := [.tmp 2, .tmp 3]) rfl (.tmp rfl (.tmp rfl .nil)) ?_
    intro w' hw'
    exact gives () hw' trivial rfl (by repeat (first | exact Sel.nil | refine Sel.cons (by repeat (first | exact .head | apply Pick.tail | apply Put.tail)) ?_))

/-- What an In holds, where nothing is wrong. -/
structure IS where
  all : List UInt8
  pos : Nat
  offs : List Nat
  next : Nat

/-- where it lies -/
structure IA where
  ab : Nat
  ao : Nat
  ac : Nat
  p : Option Addr
  c : Nat

def IS.skip (s : IS) (n : Nat) : IS := { s with pos := s.pos + n }
def IS.step (s : IS) : IS := { s with pos := s.pos + 4, next := s.next + 1 }
def IS.part (s : IS) (n : Nat) : List UInt8 := (s.all.drop s.pos).take n

abbrev ints' (l : List Nat) : List Value := l.map fun (n : Nat) => Value.int .i64 (n : Int)
abbrev InB (i : Nat) (g : IA) (n po no nx : Nat) : Chunk :=
  .blk i [(1, [.slice (some ⟨g.ab, g.ao, none⟩) n g.ac]), (1, [.int .i64 (po : Int)]), (1, [.slice g.p no g.c]), (1, [.int .i64 (nx : Int)]), (1, [.int .i64 0])] 78
abbrev inΔ (i : Nat) (g : IA) (s : IS) : List Chunk := [InB i g s.all.length s.pos s.offs.length s.next, .sl (.slice g.p s.offs.length g.c) s.offs.length (ints' s.offs) 3 1]

section
variable (w : World) (i : Nat) (g : IA) (s : IS) (S : List Nat)

theorem inFail (hm : Mem (inΔ i g s) S w w) :
    Calls Try.prog 50 [.pointer (some ⟨i, 0, none⟩), .int .i64 0].toArray w (Gives (fun _ : Unit => True) (fun _ => .tuple #[]) (fun _ => inΔ i g s) S w) := by
  refine calls_enter (fn := Try.f50) Try.func50 rfl Try.ntmps50 rfl hm ?_
  (repeat (first | (refine WC_seq ?_) | (refine WC_region ?_) | (refine WL_nil ?_) | (refine QX_then ?_) | (refine WC_cond_true rfl ?_) | (refine WL_val rfl rfl rfl (by first | exact val_move rfl | exact val_fieldAddr0 rfl | (apply val_load_blk; exact rfl; (repeat (first | exact .head | apply Pick.tail)); exact rfl) | exact val_nilCheck rfl | exact val_eql rfl rfl) ?_)))
  (first | (refine WL_store rfl rfl rfl rfl (by repeat (first | exact .head | apply Pick.tail | apply Put.tail)) (by repeat (first | exact PutSeg.one | apply PutSeg.skip | apply PutSeg.next | exact PutSeg.inner rfl)) ?_) | (refine WL_store_agg rfl rfl rfl (by repeat (first | exact .head | apply Pick.tail | apply Put.tail)) (by repeat (first | exact PutSeg.one | apply PutSeg.skip | apply PutSeg.next | exact PutSeg.inner rfl)) ?_))
  (repeat (refine WL_nil ?_))
  refine QX_end (l := []) rfl .nil ?_
  intro w' hw'
  exact gives () hw' trivial rfl (by repeat (first | exact Sel.nil | refine Sel.cons (by repeat (first | exact .head | apply Pick.tail | apply Put.tail)) ?_))

theorem inBytes (n : Nat) (hm : Mem (inΔ i g s) S w w) (h0 : 0 < n) (hn : s.pos + n ≤ s.all.length) (hc : s.all.length ≤ g.ac) (h63 : s.all.length < 9223372036854775807) :
    Calls Try.prog 48 [.pointer (some ⟨i, 0, none⟩), .int .i64 n].toArray w
      (Gives (fun _ : Unit => True) (fun _ => .slice (some ⟨g.ab, g.ao + s.pos, none⟩) n (g.ac - s.pos)) (fun _ => inΔ i g (s.skip n)) S w) := by
  refine calls_enter (fn := Try.f48) Try.func48 rfl Try.ntmps48 rfl hm ?_
  (repeat (first | (refine WC_seq ?_) | (refine WC_region ?_) | (refine WC_skip ?_) | (refine WL_nil ?_) | (refine QX_then ?_) | (refine WC_cond_false rfl ?_) | (refine WL_val rfl rfl rfl (by first | exact val_move rfl | exact val_assign rfl | exact val_fieldAddr0 rfl | (apply val_load_blk; exact rfl; (repeat (first | exact .head | apply Pick.tail)); exact rfl) | exact val_nilCheck rfl | exact val_neq rfl rfl) ?_)))
  (refine WC_draw1 0 rfl mixed (by kernel_rfl) ?_)
  (repeat (first | (refine WD_p rfl rfl rfl (by first | exact val_move rfl | exact val_fieldAddr0 rfl | exact val_nilCheck rfl | (apply val_addN; exact rfl; exact rfl; omega)) ?_) | (refine WD_q rfl rfl rfl (by apply val_load_blk; exact rfl; (repeat (first | exact .head | apply Pick.tail)); exact rfl) ?_)))
  refine WD_p rfl rfl rfl (val_slicePart rfl rfl rfl rfl h0 (by omega)) ?_
  (repeat (refine WD_p rfl rfl rfl (by exact val_assign rfl) ?_))
  refine WD_nil ?_
  (repeat (first | (refine WC_seq ?_) | (refine WC_region ?_) | (refine WL_val rfl rfl rfl (by first | exact val_move rfl | exact val_fieldAddr0 rfl | (apply val_load_blk; exact rfl; (repeat (first | exact .head | apply Pick.tail)); exact rfl) | exact val_nilCheck rfl | (apply val_addN; exact rfl; exact rfl; omega)) ?_)))
  (first | (refine WL_store rfl rfl rfl rfl (by repeat (first | exact .head | apply Pick.tail | apply Put.tail)) (by repeat (first | exact PutSeg.one | apply PutSeg.skip | apply PutSeg.next | exact PutSeg.inner rfl)) ?_) | (refine WL_store_agg rfl rfl rfl (by repeat (first | exact .head | apply Pick.tail | apply Put.tail)) (by repeat (first | exact PutSeg.one | apply PutSeg.skip | apply PutSeg.next | exact PutSeg.inner rfl)) ?_))
  (repeat (first | (refine WC_seq ?_) | (refine WC_region ?_) | (refine WC_ret ?_) | (refine WL_val rfl rfl rfl (by first | exact val_move rfl | exact val_assign rfl) ?_)))
  refine QX_ret (l := [.tmp 4]) rfl (.tmp rfl .nil) ?_
  intro w' hw'
  exact gives () hw' trivial rfl (by repeat (first | exact Sel.nil | refine Sel.cons (by repeat (first | exact .head | apply Pick.tail | apply Put.tail)) ?_))

variable (hall : Old w S 1 (.slice (some ⟨g.ab, g.ao, none⟩) s.all.length g.ac) s.all.length (bs s.all))
include hall

theorem inAc : s.all.length ≤ g.ac := by cases hall.1 with | mk hc _ _ => exact hc

theorem inU64 (hm : Mem (inΔ i g s) S w w) (hn : s.pos + 8 ≤ s.all.length) (h63 : s.all.length < 9223372036854775807) :
    Calls Try.prog 47 [.pointer (some ⟨i, 0, none⟩)].toArray w (Gives (fun _ : Unit => True) (fun _ => .int .u64 (rdTo (s.part 8) 8)) (fun _ => inΔ i g (s.skip 8)) S w) := by
  have hac := inAc w g s S hall
  refine calls_enter (fn := Try.f47) Try.func47 rfl Try.ntmps47 rfl hm ?_
  (repeat (first | (refine WC_seq ?_) | (refine WC_region ?_) | (refine WL_val rfl rfl rfl (by first | exact val_move rfl | exact val_assign rfl) ?_)))
  refine WL_call rfl rfl rfl (by repeat (first | exact Take.nil | apply Take.cons (by repeat (first | exact .head | apply Pick.tail | apply Put.tail)))) (fun w' _ hd => inBytes w' i g s _ 8 hd (by decide) hn hac h63) (fun _ _ => ?_)
  skip
  refine WL_call rfl rfl rfl .nil (fun w' hw' _ => wordRead w' _ (s.part 8) ?_ (by simp [IS.part]; omega)) (fun _ _ => ?_)
  · have := (hall.part (l := s.pos) (k := 8) (by omega) (by decide)).rd.at hw'
    rw [bs_drop, bs_take] at this
    exact this
  (repeat (first | (refine WC_seq ?_) | (refine WC_region ?_) | (refine WC_ret ?_) | (refine WL_val rfl rfl rfl (by first | exact val_move rfl | exact val_assign rfl | exact val_extract rfl rfl) ?_)))
  refine QX_ret (l := [.tmp 2]) rfl (.tmp rfl .nil) ?_
  intro w' hw'
  exact gives () hw' trivial rfl (by repeat (first | exact Sel.nil | refine Sel.cons (by repeat (first | exact .head | apply Pick.tail | apply Put.tail)) ?_))

theorem inFlag (f : Bool) (hm : Mem (inΔ i g s) S w w) (hn : s.pos + 1 ≤ s.all.length) (h63 : s.all.length < 9223372036854775807) (hf : s.part 1 = [if f then 1 else 0]) :
    Calls Try.prog 71 [.pointer (some ⟨i, 0, none⟩)].toArray w (Gives (fun _ : Unit => True) (fun _ => .bool f) (fun _ => inΔ i g (s.skip 1)) S w) := by
  have hac := inAc w g s S hall
  refine calls_enter (fn := Try.f71) Try.func71 rfl Try.ntmps71 rfl hm ?_
  (repeat (first | (refine WC_seq ?_) | (refine WC_region ?_) | (refine WL_val rfl rfl rfl (by first | exact val_move rfl | exact val_assign rfl) ?_)))
  refine WL_call rfl rfl rfl (by repeat (first | exact Take.nil | apply Take.cons (by repeat (first | exact .head | apply Pick.tail | apply Put.tail)))) (fun w' _ hd => inBytes w' i g s _ 1 hd (by decide) hn hac h63) (fun _ _ => ?_)
  skip
  refine WL_val rfl rfl rfl (val_indexAddr rfl rfl (by decide) (by decide)) ?_
  have hr := hall.part (l := s.pos) (k := 1) (by omega) (by decide)
  obtain ⟨b, o, e, hr⟩ := SlV.posOld hr.1 hr.2 (by decide) (by decide)
  simp only [Option.some.injEq, Addr.mk.injEq] at e
  obtain ⟨rfl, rfl, _⟩ := e
  rw [bs_drop, bs_take, show List.take 1 (List.drop s.pos s.all) = s.part 1 from rfl, hf] at hr
  refine WL_val rfl rfl rfl (val_load_at (i := 0) (v := by8 (if f then 1 else 0)) rfl (hr _) rfl) ?_
  cases f
  · (repeat (first | (refine WC_seq ?_) | (refine WC_block ?_) | (refine WC_region ?_) | (refine WC_ret ?_) | (refine WL_nil ?_) | (refine QX_then ?_) | (refine QX_then_ret ?_) | (refine QX_block_ret ?_) | (refine WC_cond_true rfl ?_) | (refine WL_val rfl rfl rfl (by first | exact val_assign rfl | exact val_eql rfl rfl) ?_)))
    refine QX_ret (l := [.tmp 2]) rfl (.tmp rfl .nil) ?_
    intro w' hw'
    exact gives () hw' trivial rfl (by repeat (first | exact Sel.nil | refine Sel.cons (by repeat (first | exact .head | apply Pick.tail | apply Put.tail)) ?_))
  · (repeat (first | (refine WC_seq ?_) | (refine WC_block ?_) | (refine WC_region ?_) | (refine WC_ret ?_) | (refine WL_nil ?_) | (refine QX_then ?_) | (refine QX_then_ret ?_) | (refine QX_block_ret ?_) | (refine WC_cond_true rfl ?_) | (refine WC_cond_false rfl ?_) | (refine WL_val rfl rfl rfl (by first | exact val_move rfl | exact val_assign rfl | exact val_fieldAddr0 rfl | (apply val_load_blk; exact rfl; (repeat (first | exact .head | apply Pick.tail)); exact rfl) | exact val_nilCheck rfl | exact val_eql rfl rfl) ?_)))
    refine QX_ret (l := [.tmp 2]) rfl (.tmp rfl .nil) ?_
    intro w' hw'
    exact gives () hw' trivial rfl (by repeat (first | exact Sel.nil | refine Sel.cons (by repeat (first | exact .head | apply Pick.tail | apply Put.tail)) ?_))
end
end Go.PK

/- In: Later, Open, Offsets. -/
namespace Go.PK
open Go.Proofs

section
variable (w : World) (i : Nat) (g : IA) (s : IS) (S : List Nat)

theorem inLater (lo hi : Nat) (hm : Mem (inΔ i g s) S w w) (h1 : s.offs[s.next]? = some lo) (h2 : s.offs[s.next + 1]? = some hi) (hlh : lo ≤ hi) (hh : hi ≤ g.ac) (h63 : s.pos < 1000000000) (h64 : s.next < 1000000000) :
    Calls Try.prog 52 [.pointer (some ⟨i, 0, none⟩)].toArray w
      (Gives (fun _ : Unit => True) (fun _ => .slice (subA g.ab g.ao lo g.ac) (hi - lo) (g.ac - lo)) (fun _ => inΔ i g s.step) S w) := by
  have l1 : s.next < s.offs.length := by
    rcases Nat.lt_or_ge s.next s.offs.length with h | h
    · exact h
    · rw [List.getElem?_eq_none h] at h1; cases h1
  have l2 : s.next + 1 < s.offs.length := by
    rcases Nat.lt_or_ge (s.next + 1) s.offs.length with h | h
    · exact h
    · rw [List.getElem?_eq_none h] at h2; cases h2
  obtain ⟨ab, ao, ac, p, c⟩ := g
  refine calls_enter (fn := Try.f52) Try.func52 rfl Try.ntmps52 rfl hm ?_
  (repeat (first | (refine WC_seq ?_) | (refine WC_region ?_) | (refine WC_skip ?_) | (refine WL_nil ?_) | (refine QX_then ?_) | (refine WC_cond_false rfl ?_) | (refine WL_val rfl rfl rfl (by first | exact val_move rfl | exact val_assign rfl | exact val_fieldAddr0 rfl | (apply val_load_blk; exact rfl; (repeat (first | exact .head | apply Pick.tail)); exact rfl) | exact val_nilCheck rfl | exact val_neq rfl rfl | (apply val_addI; exact rfl; exact rfl; omega; omega)) ?_)))
  refine WL_slPos (Pick.tail .head) (by omega) (fun b hb => ?_)
  dsimp only at hb hh
  subst hb
  (first | (refine WL_store rfl rfl rfl rfl (by repeat (first | exact .head | apply Pick.tail | apply Put.tail)) (by repeat (first | exact PutSeg.one | apply PutSeg.skip | apply PutSeg.next | exact PutSeg.inner rfl)) ?_) | (refine WL_store_agg rfl rfl rfl (by repeat (first | exact .head | apply Pick.tail | apply Put.tail)) (by repeat (first | exact PutSeg.one | apply PutSeg.skip | apply PutSeg.next | exact PutSeg.inner rfl)) ?_))
  (repeat (first | (refine WC_seq ?_) | (refine WC_region ?_) | (refine WL_val rfl rfl rfl (by first | exact val_move rfl | exact val_fieldAddr0 rfl | (apply val_load_blk; exact rfl; (repeat (first | exact .head | apply Pick.tail)); exact rfl) | exact val_nilCheck rfl | (apply val_addI; exact rfl; exact rfl; omega; omega)) ?_)))
  (first | (refine WL_store rfl rfl rfl rfl (by repeat (first | exact .head | apply Pick.tail | apply Put.tail)) (by repeat (first | exact PutSeg.one | apply PutSeg.skip | apply PutSeg.next | exact PutSeg.inner rfl)) ?_) | (refine WL_store_agg rfl rfl rfl (by repeat (first | exact .head | apply Pick.tail | apply Put.tail)) (by repeat (first | exact PutSeg.one | apply PutSeg.skip | apply PutSeg.next | exact PutSeg.inner rfl)) ?_))
  (repeat (refine WC_seq ?_))
  (refine WC_draw2 0 0 rfl rfl mixed (by kernel_rfl) ?_)
  (repeat (first | (refine WD_p rfl rfl rfl (by first | exact val_move rfl | exact val_fieldAddr0 rfl | exact val_nilCheck rfl) ?_) | (refine WD_q rfl rfl rfl (by apply val_load_blk; exact rfl; (repeat (first | exact .head | apply Pick.tail)); exact rfl) ?_)))
  refine WD_p rfl rfl rfl (val_subN (a := s.next + 1) (b := 1) rfl rfl (by omega) (by omega)) ?_
  refine WD_p rfl rfl rfl (val_indexAddr01 (i := s.next) rfl rfl (by omega)) ?_
  refine WD_q rfl rfl rfl (val_load_sl (v := .int .i64 (lo : Int)) rfl (Pick.tail .head) (by simp [h1])) ?_
  (repeat (first | (refine WD_p rfl rfl rfl (by first | exact val_move rfl | exact val_fieldAddr0 rfl | exact val_nilCheck rfl) ?_) | (refine WD_q rfl rfl rfl (by apply val_load_blk; exact rfl; (repeat (first | exact .head | apply Pick.tail)); exact rfl) ?_)))
  refine WD_p rfl rfl rfl (val_indexAddr01 (i := s.next + 1) rfl rfl (by omega)) ?_
  refine WD_q rfl rfl rfl (val_load_sl (v := .int .i64 (hi : Int)) rfl (Pick.tail .head) (by simp [h2])) ?_
  refine WD_p rfl rfl rfl (val_sliceN rfl rfl rfl hlh hh) ?_
  (repeat (refine WD_p rfl rfl rfl (by exact val_assign rfl) ?_))
  refine WD_nil ?_
  (repeat (refine WC_ret ?_))
  refine QX_ret (l := [.tmp 2]) rfl (.tmp rfl .nil) ?_
  intro w' hw'
  exact gives () hw' trivial rfl (by repeat (first | exact Sel.nil | refine Sel.cons (by repeat (first | exact .head | apply Pick.tail | apply Put.tail)) ?_))
end

theorem inOpen (w : World) (b o c m head offsets : Nat) (l : List UInt8) (hl : l.length = m) (h1 : head ≤ m) (h2 : offsets = 0 → m = head) :
    Calls Try.prog 22 [.slice (some ⟨b, o, none⟩) m c, .int .i64 head, .int .i64 offsets].toArray w
      (Gives (fun _ : Nat => True) (fun i => .pointer (some ⟨i, 0, none⟩)) (fun i => inΔ i ⟨b, o, c, none, 0⟩ ⟨l, 0, [], 0⟩) [] w) := by
  subst hl
  generalize hm : l.length = m at *
  refine calls_enter (fn := Try.f22) Try.func22 rfl Try.ntmps22 rfl (mem0 w) ?_
  (repeat (first | (refine WC_seq ?_) | (refine WC_region ?_) | (refine WL_val rfl rfl rfl (by first | exact val_move rfl | exact val_assign rfl) ?_)))
  refine WL_val rfl rfl rfl (val_build (vs := [(0, .slice (some ⟨b, o, none⟩) m c)]) (cells := [.slice (some ⟨b, o, none⟩) m c, .int .i64 0, .slice none 0 0, .int .i64 0, .int .i64 0]) (pl := [(0, 1), (1, 1), (2, 1), (3, 1), (4, 1)]) (by kernel_rfl) rfl rfl) ?_
  refine WL_as 9 (aggS [(1, [.slice (some ⟨b, o, none⟩) m c]), (1, [.int .i64 0]), (1, [.slice none 0 0]), (1, [.int .i64 0]), (1, [.int .i64 0])]) rfl rfl ?_
  (first | (refine WL_alloc rfl rfl (fun b10 => ?_)) | (refine WL_box_agg rfl rfl rfl inferInstance (fun b10 => ?_)) | (refine WL_box rfl rfl rfl rfl (fun b10 => ?_)))
  (repeat (first | (refine WC_seq ?_) | (refine WC_region ?_) | (refine WL_val rfl rfl rfl (by first | exact val_move rfl | exact val_assign rfl | exact val_len rfl | exact val_lss rfl rfl) ?_)))
  refine WL_bool 15 rfl (fun ht => by have := of_decide_eq_true ht; omega) (fun _ => ?_)
  (repeat (refine WL_val rfl rfl rfl (by first | exact val_move rfl | exact val_eql rfl rfl) ?_))
  refine WL_bool 18 rfl (fun ht => ?_) (fun _ => ?_)
  · have ho : m = head := h2 (by have := of_decide_eq_true ht; omega)
    (repeat (first | (refine WL_nil ?_) | (refine QX_then ?_) | (refine WL_val rfl rfl rfl (by first | exact val_move rfl | exact val_len rfl | exact val_pick_true rfl rfl | exact val_pick_false rfl rfl | exact val_neq rfl rfl) ?_)))
    refine WC_cond rfl (fun ht => absurd (of_decide_eq_true ht) (by simp [ho])) (fun _ => ?_)
    (repeat (first | (refine WC_seq ?_) | (refine WC_region ?_) | (refine WC_skip ?_) | (refine WC_ret ?_) | (refine WL_val rfl rfl rfl (by first | exact val_move rfl | exact val_assign rfl) ?_)))
    refine QX_ret (l := [.tmp 6]) rfl (.tmp rfl .nil) ?_
    intro w' hw'
    exact gives b10 (hw'.nilSl 3 1) trivial rfl (by rw [← hm]; exact (by repeat (first | exact Sel.nil | refine Sel.cons (by repeat (first | exact .head | apply Pick.tail | apply Put.tail)) ?_)))
  · (repeat (first | (refine WC_seq ?_) | (refine WC_region ?_) | (refine WC_skip ?_) | (refine WC_ret ?_) | (refine WL_nil ?_) | (refine QX_then ?_) | (refine WC_cond_false rfl ?_) | (refine WL_off rfl rfl rfl ?_) | (refine WL_val rfl rfl rfl (by first | exact val_move rfl | exact val_assign rfl | exact val_pick_false rfl rfl) ?_)))
    refine QX_ret (l := [.tmp 6]) rfl (.tmp rfl .nil) ?_
    intro w' hw'
    exact gives b10 (hw'.nilSl 3 1) trivial rfl (by rw [← hm]; exact (by repeat (first | exact Sel.nil | refine Sel.cons (by repeat (first | exact .head | apply Pick.tail | apply Put.tail)) ?_)))
end Go.PK

/- In.Offsets, where all is well. -/
namespace Go.PK
open Go.Proofs

/-- These are the offsets that stand at these places, and all is well with them. -/
structure OffsOk (all : List UInt8) (head : Nat) (ats os : List Nat) : Prop where
  len : os.length = ats.length
  inside : ∀ k, k < ats.length → ats.getD k 0 + 4 ≤ all.length
  reads : ∀ k, k < ats.length → rdTo (all.drop (ats.getD k 0)) 4 = os.getD k 0
  first : os.getD 0 head = head
  rise : ∀ k, k < ats.length → (head :: os).getD k 0 ≤ os.getD k 0
  below : ∀ k, k < ats.length → os.getD k 0 ≤ all.length

theorem ints'_getElem (l : List Nat) (k : Nat) (h : k < l.length) : (ints' l)[k]? = some (.int .i64 (l.getD k 0 : Nat)) := by simp [h]

section
variable (w : World) (i : Nat) (g : IA) (s : IS) (S : List Nat)

set_option maxHeartbeats 2000000 in
theorem inOffsets (head : Nat) (ats os : List Nat) (v : Value) (hm : Mem (inΔ i g s) S w w) (h0 : s.offs = []) (hv : Old w S 1 v ats.length (ints' ats)) (hok : OffsOk s.all head ats os)
    (hall : Old w S 1 (.slice (some ⟨g.ab, g.ao, none⟩) s.all.length g.ac) s.all.length (bs s.all)) (hz : s.all.length < 1000000000) (hn : ats.length < 1000000) :
    Calls Try.prog 23 [.pointer (some ⟨i, 0, none⟩), .int .i64 head, v].toArray w
      (Gives (fun g' : IA => g'.ab = g.ab ∧ g'.ao = g.ao ∧ g'.ac = g.ac) (fun _ => .tuple #[]) (fun g' => inΔ i g' { s with offs := os ++ [s.all.length] }) S w) := by
  obtain ⟨pv, cv, rfl⟩ := hv.1.shape
  obtain ⟨ab, ao, ac, p0, c0⟩ := g
  dsimp only at hall
  have hac : s.all.length ≤ ac := by cases hall.1 with | mk hc _ _ => exact hc
  have ol := hok.len
  refine calls_enter (fn := Try.f23) Try.func23 rfl Try.ntmps23 rfl hm ?_
  (repeat (first | (refine WC_seq ?_) | (refine WC_block ?_) | (refine WC_region ?_) | (refine WC_skip ?_) | (refine WL_nil ?_) | (refine QX_then ?_) | (refine WC_cond_false rfl ?_) | (refine WL_val rfl rfl rfl (by first | exact val_move rfl | exact val_assign rfl | exact val_fieldAddr0 rfl | (apply val_load_blk; exact rfl; (repeat (first | exact .head | apply Pick.tail)); exact rfl) | exact val_nilCheck rfl | exact val_len rfl | exact val_neq rfl rfl) ?_)))
  refine WC_loopS (G := Nat × Option Addr × Nat) (fun k => k.1 ≤ ats.length) (fun k => [(0, .pointer (some ⟨i, 0, none⟩)), (1, .int .i64 head), (6, .int .i64 ((head :: os).getD k.1 0 : Nat)), (17, .slice pv ats.length cv), (18, .int .i64 ats.length), (19, .int .i64 k.1)])
    (fun k => inΔ i ⟨ab, ao, ac, k.2.1, k.2.2⟩ { s with offs := os.take k.1 }) (fun k => ats.length - k.1) (0, p0, c0) (Nat.zero_le _) ⟨rfl, rfl, rfl, rfl, rfl, rfl, trivial⟩ (by cases s; dsimp only at h0; subst h0; exact (by repeat (first | exact Sel.nil | refine Sel.cons (by repeat (first | exact .head | apply Pick.tail | apply Put.tail)) ?_))) ?_
  intro ⟨k, p, c⟩ hk
  dsimp only at hk ⊢
  (repeat (first | (refine WC_seq ?_) | (refine WC_region ?_) | (refine WL_val rfl rfl rfl (by exact val_lss rfl rfl) ?_)))
  refine WC_cond rfl (fun ht => ?_) (fun hf => ?_)
  · have hlt : k < ats.length := by have := of_decide_eq_true ht; omega
    have hin := hok.inside k hlt
    have hrd := hok.reads k hlt
    have hri := hok.rise k hlt
    have hbe := hok.below k hlt
    obtain ⟨vb, vo, hvp, hvr⟩ := SlV.posOld hv.1 hv.2 (by omega) (by decide)
    obtain ⟨b, o, hab, har⟩ := SlV.posOld hall.1 hall.2 (by omega) (by decide)
    simp only [Option.some.injEq, Addr.mk.injEq] at hab
    obtain ⟨rfl, rfl, _⟩ := hab
    (repeat (first | (refine WC_seq ?_) | (refine WC_block ?_) | (refine WC_region ?_) | (refine WC_skip ?_) | (refine WL_val rfl rfl rfl (by exact val_move rfl) ?_)))
    refine WL_val rfl rfl rfl (val_indexAddrP1 hvp rfl rfl hlt) ?_
    refine WL_val rfl rfl rfl (val_load_at rfl (hvr _) (ints'_getElem ats k hlt)) ?_
    generalize ats.getD k 0 = at0 at hin hrd
    (repeat (first | (refine WC_seq ?_) | (refine WC_block ?_) | (refine WC_region ?_) | (refine WL_val rfl rfl rfl (by first | exact val_move rfl | exact val_assign rfl) ?_)))
    refine WC_loopS (G := Nat) (fun j => j ≤ 4) (fun j => [(0, .pointer (some ⟨i, 0, none⟩)), (1, .int .i64 head), (6, .int .i64 ((head :: os).getD k 0 : Nat)), (17, .slice pv ats.length cv), (18, .int .i64 ats.length), (19, .int .i64 k), (7, .int .i64 k), (8, .int .i64 at0), (9, .int .i64 (rdTo (s.all.drop at0) j)), (24, .int .i64 j)])
      (fun _ => inΔ i ⟨ab, ao, ac, p, c⟩ { s with offs := os.take k }) (fun j => 4 - j) 0 (Nat.zero_le _) ⟨rfl, rfl, rfl, rfl, rfl, rfl, rfl, rfl, rfl, rfl, trivial⟩ (by repeat (first | exact Sel.nil | refine Sel.cons (by repeat (first | exact .head | apply Pick.tail | apply Put.tail)) ?_)) ?_
    intro j hj
    (repeat (first | (refine WC_seq ?_) | (refine WC_region ?_) | (refine WL_val rfl rfl rfl (by exact val_lss rfl rfl) ?_)))
    refine WC_cond rfl (fun ht => ?_) (fun hf => ?_)
    · have hj4 : j < 4 := by have := of_decide_eq_true ht; omega
      have hp : 2 ^ (8 * j) ≤ 2 ^ 24 := Nat.pow_le_pow_right (by decide) (by omega)
      have hb := ((s.all.drop at0).getD j 0).toNat_lt
      have h1 := rdTo_lt (s.all.drop at0) j
      have h3 : ((s.all.drop at0).getD j 0).toNat * 2 ^ (8 * j) ≤ 255 * 2 ^ (8 * j) := Nat.mul_le_mul_right _ (by omega)
      (repeat (first | (refine WC_seq ?_) | (refine WC_block ?_) | (refine WC_region ?_) | (refine WC_skip ?_) | (refine WL_val rfl rfl rfl (by first | exact val_move rfl | exact val_assign rfl | exact val_fieldAddr0 rfl | (apply val_load_blk; exact rfl; (repeat (first | exact .head | apply Pick.tail)); exact rfl) | exact val_nilCheck rfl | (apply val_addN; exact rfl; exact rfl; omega)) ?_)))
      refine WL_val rfl rfl rfl (val_indexAddrN1 rfl rfl (show at0 + j < s.all.length from by omega)) ?_
      refine WL_val rfl rfl rfl (val_load_at (v := by8 ((s.all.drop at0).getD j 0)) rfl (har _) (by simp [bs, show at0 + j < s.all.length from by omega])) ?_
      refine WL_val rfl rfl rfl (val_convU8 rfl) ?_
      (repeat (refine WL_val rfl rfl rfl (by first | exact val_move rfl | (apply val_mulI; exact rfl; exact rfl; omega; omega)) ?_))
      refine WL_val rfl rfl rfl (val_shlN (s := 8 * j) rfl rfl (by omega) (by omega)) ?_
      refine WL_val rfl rfl rfl (val_orN rfl rfl (by omega) (by omega)) ?_
      rw [rdTo_or]
      (repeat (first | (refine WC_region ?_) | (refine WL_nil ?_) | (refine WL_val rfl rfl rfl (by first | exact val_move rfl | exact val_assign rfl | (apply val_addI; exact rfl; exact rfl; omega; omega)) ?_)))
      exact QX_againS (j + 1) (by omega) (by omega) ⟨rfl, rfl, rfl, rfl, rfl, rfl, rfl, rfl, rfl, rfl, trivial⟩ (by repeat (first | exact Sel.nil | refine Sel.cons (by repeat (first | exact .head | apply Pick.tail | apply Put.tail)) ?_))
    · have hj8 : j = 4 := by have := of_decide_eq_false hf; omega
      subst hj8
      rw [hrd]
      (repeat (first | (refine WC_seq ?_) | (refine WC_block ?_) | (refine WC_skip ?_) | (refine WC_ret ?_) | (refine WC_exit ?_) | (refine QX_then ?_) | (refine QX_then_ret ?_) | (refine QX_then_exit ?_) | (refine QX_block ?_) | (refine QX_block_ret ?_) | (refine QX_block_exit ?_) | (refine QX_block_exit_ne rfl ?_)))
      refine WC_cut (G := Unit) (fun _ => True) (fun _ => [(63, .bool (decide ((s.all.length : Int) < (os.getD k 0 : Nat)))), (0, .pointer (some ⟨i, 0, none⟩)), (1, .int .i64 head), (6, .int .i64 ((head :: os).getD k 0 : Nat)), (17, .slice pv ats.length cv), (18, .int .i64 ats.length), (19, .int .i64 k), (9, .int .i64 (os.getD k 0 : Nat))])
        (fun _ => inΔ i ⟨ab, ao, ac, p, c⟩ { s with offs := os.take k }) ?_ (fun _ _ => ?_)
      · (repeat (first | (refine WC_region ?_) | (refine WL_val rfl rfl rfl (by first | exact val_move rfl | exact val_eql rfl rfl) ?_)))
        refine WL_bool 45 rfl (fun ht => ?_) (fun _ => ?_)
        · have hk0 : k = 0 := by have := of_decide_eq_true ht; omega
          subst hk0
          have hfirst := hok.first
          have e0 : os.getD 0 0 = head := by cases os with
            | nil => simp at ol; omega
            | cons a r => simpa using hfirst
          (repeat (refine WL_val rfl rfl rfl (by first | exact val_move rfl | exact val_pick_true rfl rfl | exact val_neq rfl rfl) ?_))
          refine WL_bool 50 rfl (fun ht => absurd (of_decide_eq_true ht) (by simp only [e0]; simp)) (fun _ => ?_)
          (repeat (refine WL_val rfl rfl rfl (by first | exact val_move rfl | exact val_pick_false rfl rfl | exact val_lss rfl rfl) ?_))
          refine WL_bool 55 rfl (fun ht => by have := of_decide_eq_true ht; omega) (fun _ => ?_)
          (repeat (first | (refine WL_nil ?_) | (refine WL_val rfl rfl rfl (by first | exact val_move rfl | exact val_fieldAddr0 rfl | (apply val_load_blk; exact rfl; (repeat (first | exact .head | apply Pick.tail)); exact rfl) | exact val_nilCheck rfl | exact val_len rfl | exact val_pick_false rfl rfl | exact val_gtr rfl rfl) ?_)))
          exact QX_join () trivial ⟨rfl, rfl, rfl, rfl, rfl, rfl, rfl, rfl, trivial⟩ (by repeat (first | exact Sel.nil | refine Sel.cons (by repeat (first | exact .head | apply Pick.tail | apply Put.tail)) ?_))
        · (repeat (first | (refine WL_off rfl rfl rfl ?_) | (refine WL_val rfl rfl rfl (by first | exact val_move rfl | exact val_pick_false rfl rfl | exact val_lss rfl rfl) ?_)))
          refine WL_bool 55 rfl (fun ht => by have := of_decide_eq_true ht; omega) (fun _ => ?_)
          (repeat (first | (refine WL_nil ?_) | (refine WL_val rfl rfl rfl (by first | exact val_move rfl | exact val_fieldAddr0 rfl | (apply val_load_blk; exact rfl; (repeat (first | exact .head | apply Pick.tail)); exact rfl) | exact val_nilCheck rfl | exact val_len rfl | exact val_pick_false rfl rfl | exact val_gtr rfl rfl) ?_)))
          exact QX_join () trivial ⟨rfl, rfl, rfl, rfl, rfl, rfl, rfl, rfl, trivial⟩ (by repeat (first | exact Sel.nil | refine Sel.cons (by repeat (first | exact .head | apply Pick.tail | apply Put.tail)) ?_))
      · refine WC_cond rfl (fun ht => by have := of_decide_eq_true ht; omega) (fun _ => ?_)
        (repeat (first | (refine WC_seq ?_) | (refine WC_region ?_) | (refine WC_skip ?_) | (refine WL_val rfl rfl rfl (by first | exact val_move rfl | exact val_fieldAddr0 rfl | (apply val_load_blk; exact rfl; (repeat (first | exact .head | apply Pick.tail)); exact rfl) | exact val_nilCheck rfl) ?_)))
        refine WL_build1 rfl rfl rfl rfl rfl rfl rfl rfl rfl rfl (fun b5 => ?_)
        refine WL_append rfl rfl rfl rfl rfl rfl (by repeat (first | exact .head | apply Pick.tail | apply Put.tail)) (SlRd.blk (k := 1) (m := 1) (by repeat (first | exact .head | apply Pick.tail | apply Put.tail)) (by exact rfl) rfl (Nat.le_refl _) rfl) (by simp [Value.oneCell']) (by simp; omega) (by simp; omega) (fun p2 c2 => ?_)
        (repeat (refine WL_val rfl rfl rfl (by first | exact val_fieldAddr0 rfl | exact val_nilCheck rfl) ?_))
        (first | (refine WL_store rfl rfl rfl rfl (by repeat (first | exact .head | apply Pick.tail | apply Put.tail)) (by repeat (first | exact PutSeg.one | apply PutSeg.skip | apply PutSeg.next | exact PutSeg.inner rfl)) ?_) | (refine WL_store_agg rfl rfl rfl (by repeat (first | exact .head | apply Pick.tail | apply Put.tail)) (by repeat (first | exact PutSeg.one | apply PutSeg.skip | apply PutSeg.next | exact PutSeg.inner rfl)) ?_))
        (repeat (first | (refine WC_region ?_) | (refine WL_nil ?_) | (refine WL_val rfl rfl rfl (by first | exact val_move rfl | exact val_assign rfl | (apply val_addI; exact rfl; exact rfl; omega; omega)) ?_)))
        have e1 : ints' (os.take k) ++ [Value.int .i64 (os.getD k 0 : Nat)] = ints' (os.take (k + 1)) := by
          rw [show os.take (k + 1) = os.take k ++ [os.getD k 0] from by rw [List.take_succ_eq_append_getElem (by omega)]; simp [show k < os.length from by omega]]
          exact (List.map_append (f := fun (n : Nat) => Value.int .i64 (n : Int)) (l₁ := os.take k) (l₂ := [os.getD k 0])).symm
        have e2 : (os.take k).length + 1 = (os.take (k + 1)).length := by simp; omega
        rw [e1, e2]
        exact QX_againS (k + 1, p2, c2) (by simp; omega) (by simp; omega) ⟨rfl, rfl, rfl, rfl, rfl, rfl, trivial⟩ (by repeat (first | exact Sel.nil | refine Sel.cons (by repeat (first | exact .head | apply Pick.tail | apply Put.tail)) ?_))
  · have hk8 : k = ats.length := by have := of_decide_eq_false hf; omega
    subst hk8
    rw [show os.take ats.length = os from by rw [← ol]; exact List.take_length]
    (repeat (first | (refine WC_exit ?_) | (refine QX_then ?_) | (refine QX_then_exit ?_) | (refine QX_block_exit ?_)))
    (refine WC_draw1 0 rfl mixed (by kernel_rfl) ?_)
    (repeat (first | (refine WD_p rfl rfl rfl (by first | exact val_move rfl | exact val_fieldAddr0 rfl | exact val_nilCheck rfl | exact val_len rfl) ?_) | (refine WD_q rfl rfl rfl (by apply val_load_blk; exact rfl; (repeat (first | exact .head | apply Pick.tail)); exact rfl) ?_)))
    (refine WD_g ?_)
    refine WL_build1 rfl rfl rfl rfl rfl rfl rfl rfl rfl rfl (fun b1 => ?_)
    (refine WL_g (by repeat (first | exact Sel.nil | refine Sel.cons (by repeat (first | exact .head | apply Pick.tail | apply Put.tail)) ?_)) ?_)
    skip
    (refine WD_t ?_)
    refine WL_append rfl rfl rfl rfl rfl rfl (by repeat (first | exact .head | apply Pick.tail | apply Put.tail)) (SlRd.blk (k := 1) (m := 1) (by repeat (first | exact .head | apply Pick.tail | apply Put.tail)) (by exact rfl) rfl (Nat.le_refl _) rfl) (by simp [Value.oneCell']) (by simp; omega) (by simp; omega) (fun p3 c3 => ?_)
    (refine WL_t ?_)
    (repeat (refine WD_p rfl rfl rfl (by first | exact val_fieldAddr0 rfl | exact val_nilCheck rfl) ?_))
    (refine WD_t ?_)
    (first | (refine WL_store rfl rfl rfl rfl (by repeat (first | exact .head | apply Pick.tail | apply Put.tail)) (by repeat (first | exact PutSeg.one | apply PutSeg.skip | apply PutSeg.next | exact PutSeg.inner rfl)) ?_) | (refine WL_store_agg rfl rfl rfl (by repeat (first | exact .head | apply Pick.tail | apply Put.tail)) (by repeat (first | exact PutSeg.one | apply PutSeg.skip | apply PutSeg.next | exact PutSeg.inner rfl)) ?_))
    (refine WL_t ?_)
    refine WD_nil ?_
    refine QX_end (l := []) rfl .nil ?_
    intro w' hw'
    have e1 : ints' os ++ [Value.int .i64 (s.all.length : Nat)] = ints' (os ++ [s.all.length]) := by simp
    have e2 : os.length + 1 = (os ++ [s.all.length]).length := by simp
    rw [e1, e2] at hw'
    exact gives ⟨ab, ao, ac, p3, c3⟩ hw' ⟨rfl, rfl, rfl⟩ rfl (by repeat (first | exact Sel.nil | refine Sel.cons (by repeat (first | exact .head | apply Pick.tail | apply Put.tail)) ?_))
end
end Go.PK

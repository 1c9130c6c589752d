/- StateApart: states that differ have unlike bytes. (Part 2: K14, K15.) -/
import Derived.Test.YtdmfjpjhibhmhaaApa
import Derived.RangeFuncNested
import Derived.RangeFuncCalls
import Derived.RangeFuncLeaves
import Derived.OwnWalkIn

/- The calculus: ranges over functions. Operations carried over into a round's frame; calls of yield; a function's end behind such a loop. -/
namespace Go.PK
attribute [local semireducible] Val Rd

/-- The wide fence, in a round or in none. -/
abbrev wideAt (ro : Option Nat) : Fence := { Fence.wide with round := ro }

/-- Nothing but the ordinary end. -/
def OnlyN (K : Act → World → Prop) : Exit → Act → World → Prop
  | .normal, a, w => K a w
  | _, _, _ => False

instance {K : Act → World → Prop} : NoPan (OnlyN K) := ⟨fun _ _ _ h => h⟩

theorem onlyN_out {K : Act → World → Prop} : ¬ LetsOut (OnlyN K) := fun ⟨_, _, h⟩ => h

section lift
variable {P : Program} {ro : Option Nat} {m : Nat} {K : Act → World → Prop} {Q : Exit → Act → World → Prop} {ops : Array Oper}

theorem oper_lift {o : Oper} {a : Act} {w : World} {next next' : Act → World → Prop} (hnd : ∀ c, o.op ≠ .defer c) (h : o.wp P a w next (OnlyN K)) (hn : ∀ a w, next a w → next' a w) : o.wpIn (wideAt ro) m P a w next' Q := by
  refine ⟨fun _ _ => trivial, ?_⟩
  rw [Oper.semAt_plain (wideAt ro) a.eval o hnd]
  unfold Oper.wp at h
  generalize (execOp a.eval o).run P w = r at *
  cases r with
  | ok nx w' =>
    cases nx <;> simp only [Oper.upon] at h <;> simp only [Oper.uponIn]
    case value => exact hn _ _ h
    case skip => exact hn _ _ h
    case defer => exact hn _ _ h
    case enter =>
      refine ⟨fun h => by simp [Fence.wide] at h, ?_⟩
      have h2 := (callsIn_wide (n := m - 1)).2 h
      refine CallsIn.mono (show CallsIn (wideAt ro) (m - 1) P _ _ _ _ from h2) fun e w'' he => ?_
      cases e with
      | returned v => exact hn _ _ he
      | panicked c => exact he.elim
      | outgrown => exact absurd he onlyN_out
    case row =>
      refine ⟨fun h => by simp [Fence.wide] at h, fun c cs _ => ?_⟩
      obtain ⟨v, w'', r, s⟩ := h c cs
      exact ⟨v, w'', hn _ _ r, stepsIn_wide.2 s⟩
  | halt x w' => cases x <;> simp only [Oper.upon] at h <;> first | exact h.elim

theorem list_lift : ∀ (l1 l2 : List Oper) (a : Act) (w : World), (∀ o ∈ l1, ∀ c, o.op ≠ .defer c) → (∀ a w, K a w → wpListIn (wideAt ro) m P ops Q l2 a w) → wpList P ops (OnlyN K) l1 a w → wpListIn (wideAt ro) m P ops Q (l1 ++ l2) a w
  | [], l2, a, w, _, hK, h => hK a w h
  | o :: l1, l2, a, w, hnd, hK, h => by
    simp only [wpList] at h
    simp only [List.cons_append, wpListIn]
    split
    · rename_i hw
      simp only [hw, if_true] at h
      rcases h with h | h
      · exact oper_lift (hnd o (by simp)) h fun a w h => list_lift l1 l2 a w (fun o ho => hnd o (by simp [ho])) hK h
      · exact absurd h.2 onlyN_out
    · rename_i hw
      simp only [hw] at h
      exact ⟨fun _ _ => trivial, list_lift l1 l2 _ w (fun o ho => hnd o (by simp [ho])) hK h⟩

theorem any_lift {md : Region.Mode} (hnd : ∀ (j : Nat) (o : Oper), ops[j]? = some o → ∀ c, o.op ≠ .defer c) (hK : ∀ a w, K a w → Q .normal a w) :
    ∀ (fuel : Nat) (listed : Array Bool) (a : Act) (w : World), wpAny P md ops (OnlyN K) fuel listed a w → wpAnyIn (wideAt ro) m P md ops Q fuel listed a w
  | 0, _, a, w, h => ⟨h.1, hK a w h.2⟩
  | fuel + 1, listed, a, w, h => ⟨fun hr => hK a w (h.1 hr), fun i hi => by
    have h2 := h.2 i hi
    unfold wpOp at h2
    unfold wpOpIn
    cases ho : ops[i]? with
    | none => simp only [ho] at h2 ⊢; exact any_lift hnd hK fuel _ a w h2
    | some o =>
      simp only [ho] at h2 ⊢
      split
      · rename_i hw
        simp only [hw, if_true] at h2
        rcases h2 with h2 | h2
        · exact oper_lift (hnd i o ho) h2 fun a w h => any_lift hnd hK fuel _ a w h
        · exact absurd h2.2 onlyN_out
      · rename_i hw
        simp only [hw] at h2
        exact ⟨fun _ _ => trivial, any_lift hnd hK fuel _ _ w h2⟩⟩

/-- no operation of the list is a defer statement -/
def isDefer : Op → Bool
  | .defer _ => true
  | _ => false
def noDefer (l : List Oper) : Bool := l.all fun o => !isDefer o.op
theorem noDefer.spec {l : List Oper} (h : noDefer l = true) (o : Oper) (ho : o ∈ l) (c : Call) : o.op ≠ .defer c := fun he => by
  have := List.all_eq_true.1 h o ho
  rw [he] at this
  simp [isDefer] at this

theorem any_plan {Q : Exit → Act → World → Prop} [NoPan Q] {l : List Oper} {a : Act} {w : World} {C D : World → Prop} (hCD : ∀ w, C w → D w) (ks : List Kd) (hpl : planOk l.toArray ks = true)
    (hC : C w) (h : WDl P l.toArray Q C D ks l a w) : wpAny P .any l.toArray Q l.toArray.size (Array.replicate l.toArray.size false) a w := by
  simp only [planOk, Bool.and_eq_true, beq_iff_eq] at hpl
  obtain ⟨⟨⟨h1, h2⟩, h3⟩, h4⟩ := hpl
  refine wpAny_of_T (C := C) (D := D) (tail := tailOf ks) _ _ _ _ ?_
  have := wpAnyT_of_plan (P := P) (C := C) (D := D) hCD ks h1 h3 l ks 0 (Array.replicate l.toArray.size false) false a w (by simp) (by simp) (by simp)
    (fun j oj _ hl => by simp [Array.getElem?_replicate] at hl; split at hl <;> simp_all) h4 (fun _ => hC) (hCD _ hC) h
  simpa using this

/-- A drawn region, in a round's frame. -/
theorem wpIn_draw {n : Nat} {e : Env} {Γ : List Chunk} {S : List Nat} {w0 : World} {id : Nat} {l : List Oper} (Γc : List Chunk) (ks : List Kd) (hm : P.follows .mixedOrders = true) (hpl : planOk l.toArray ks = true) (hnd : noDefer l = true) (hs : Sel Γc Γ)
    (hK : ∀ a w, K a w → Q .normal a w) (h : WD P l.toArray (OnlyN K) Γc ks l n e Γ S w0) : ∀ a w, St n e Γ S w0 a w → (Code.region id l.toArray true).wpIn (wideAt ro) m P Q a w := fun a w st => by
  refine wpIn_region_any hm (any_lift (K := K) (fun j o ho => noDefer.spec hnd o ?_) hK _ _ _ _ ?_)
  · have := List.mem_of_getElem? (l := l) (i := j) (by simpa using ho)
    exact this
  · exact any_plan (C := Mem Γc S w0) (D := Mem [] S w0) (fun _ h => h.sel .nil) _ hpl (st.mem.sel hs).drew (h a w.drew ⟨st.fits, st.mem.drew⟩)
end lift

/-! ## The deferred calls are carried along -/

def withD (ds : List Deferred) (a : Act) : Act := { a with defers := a.defers ++ ds }

section defers
variable {P : Program} {Q : Exit → Act → World → Prop} {ops : Array Oper} {ds : List Deferred}

theorem withD_put (a : Act) (d : Option Tmp) (v : Value) : (withD ds a).put d v = withD ds (a.put d v) := by
  cases d <;> rfl

theorem oper_defers {o : Oper} {a : Act} {w : World} {next : Act → World → Prop} (h : o.wp P a w (fun a w => next (withD ds a) w) (fun e a w => Q e (withD ds a) w)) : o.wp P (withD ds a) w next Q := by
  unfold Oper.wp at *
  have he : (withD ds a).eval = a.eval := rfl
  rw [he]
  generalize (execOp a.eval o).run P w = r at *
  cases r with
  | ok nx w' =>
    cases nx <;> simp only [Oper.upon] at h ⊢
    case value => rw [withD_put]; exact h
    case skip => rw [withD_put]; exact h
    case defer d => rw [show ({ withD ds a with defers := d :: (withD ds a).defers } : Act) = withD ds { a with defers := d :: a.defers } from rfl, withD_put]; exact h
    case enter =>
      refine Calls.mono h fun e w'' he => ?_
      cases e with
      | returned v => show next ((withD ds a).put o.dst v) w''; rw [withD_put]; exact he
      | panicked c => exact he
      | outgrown => obtain ⟨a1, w1, h1⟩ := he; exact ⟨_, w1, h1⟩
    case row => exact Rows.mono h fun v w'' he => by rw [withD_put]; exact he
  | halt x w' => cases x <;> simp only [Oper.upon] at h ⊢ <;> exact h

theorem list_defers : ∀ (l : List Oper) (a : Act) (w : World), wpList P ops (fun e a w => Q e (withD ds a) w) l a w → wpList P ops Q l (withD ds a) w
  | [], a, w, h => h
  | o :: l, a, w, h => by
    simp only [wpList] at h ⊢
    have ht : (withD ds a).tmps = a.tmps := rfl
    rw [ht]
    split
    · rename_i hw
      simp only [hw, if_true] at h
      rcases h with h | ⟨h1, a1, w1, h2⟩
      · exact .inl (oper_defers (Oper.wp_mono (fun a w h => list_defers l a w h) h))
      · exact .inr ⟨h1, _, w1, h2⟩
    · rename_i hw
      simp only [hw] at h
      rw [withD_put]
      exact list_defers l _ w h
end defers

end Go.PK

/- The calculus: ranges over functions, the rules. -/
namespace Go.PK
attribute [local semireducible] Val Rd

/-- A contract of a call that never asks for more memory than there is. -/
def RetS (R : Value → World → Prop) : Ending → World → Prop
  | .returned v, w => R v w
  | _, _ => False
abbrev GivesS {G : Type} (facts : G → Prop) (V : G → Value) (Δ' : G → List Chunk) (ids : List Nat) (w : World) : Ending → World → Prop :=
  RetS fun v w' => ∃ x, facts x ∧ v = V x ∧ Mem (Δ' x) ids w w'

instance {P : Program} {fn : Func} {R : Value → World → Prop} : NoPan (bodyPost P fn (RetS R)) := ⟨fun _ _ _ hq => hq.2⟩

theorem givesS {G : Type} {facts : G → Prop} {V : G → Value} {Δ' : G → List Chunk} {ids : List Nat} {w0 w : World} {v : Value} {Γ : List Chunk} (x : G) (hm : Mem Γ ids w0 w) (hx : facts x) (hv : v = V x) (hΔ : Sel (Δ' x) Γ) :
    GivesS facts V Δ' ids w0 (.returned v) w := ⟨x, hx, hv, hm.sel hΔ⟩

theorem Mem.alloc_obj {Γ S w0 w} (hm : Mem Γ S w0 w) (o : Obj) : Mem Γ S w0 (w.alloc o) :=
  hm.turn (Δ := []) (Δ' := []) (A := Γ) (.refl _) (.refl _) rfl rfl rfl (by simp) (fun k hk _ => by show (w.heap.push o)[k]? = w.heap[k]?; rw [Array.getElem?_push]; simp; omega) (fun c hc => by cases hc) (by simp [idsOf]) (fun i hi => by simp [idsOf] at hi)

/-- a block that holds no cells is none of ours -/
theorem Mem.other {Γ S w0 w} (hm : Mem Γ S w0 w) {r : Nat} {o : Obj} (h : w.heap[r]? = some o) (hc : o.isCells = false) : r ∉ idsOf Γ := fun hr => by
  obtain ⟨c, hcm, hi⟩ := List.mem_flatMap.1 hr
  have hok := hm.ok c hcm
  cases c with
  | blk id segs ty =>
    simp [Chunk.ids] at hi; subst hi
    rw [hok.1] at h; cases h; simp [Obj.isCells] at hc
  | sl v n xs ty sz =>
    obtain ⟨⟨_, hv | ⟨b, cap, cur, hv, _, hb, _⟩⟩, _⟩ := hok
    · obtain ⟨rfl, _⟩ := hv; simp [Chunk.ids] at hi
    · subst hv; simp [Chunk.ids] at hi; subst hi
      rw [hb] at h; cases h; simp [Obj.isCells] at hc

theorem Mem.putObj {Γ S w0 w} (hm : Mem Γ S w0 w) {r : Nat} (o : Obj) (hr : r ∉ idsOf Γ) (h0 : w0.heap.size ≤ r) : Mem Γ S w0 (w.putObj r o) :=
  ⟨fun c hc => (hm.ok c hc).of_same fun i hi => World.putObj_heap_other (fun he => hr (List.mem_flatMap.2 ⟨c, hc, he ▸ hi⟩)), hm.nodup, hm.own,
    ⟨hm.same.os, hm.same.tape, hm.same.output, by rw [World.putObj_size]; exact hm.same.size, fun k hk hn => by
      rw [World.putObj_heap_other (by omega)]; exact hm.same.block k hk hn⟩⟩

/-- the same block turned in both worlds -/
theorem Mem.putBoth {Γ S w0 w} (hm : Mem Γ S w0 w) {r : Nat} (o : Obj) (hr : r ∉ idsOf Γ) (h0 : r < w0.heap.size) : Mem Γ S (w0.putObj r o) (w.putObj r o) :=
  ⟨fun c hc => (hm.ok c hc).of_same fun i hi => World.putObj_heap_other (fun he => hr (List.mem_flatMap.2 ⟨c, hc, he ▸ hi⟩)), hm.nodup, fun i hi => by rw [World.putObj_size]; exact hm.own i hi,
    ⟨hm.same.os, hm.same.tape, hm.same.output, by rw [World.putObj_size, World.putObj_size]; exact hm.same.size, fun k hk hn => by
      rw [World.putObj_size] at hk
      by_cases he : k = r
      · subst he
        rw [World.putObj_heap_same h0, World.putObj_heap_same (Nat.lt_of_lt_of_le h0 hm.same.size)]
      · rw [World.putObj_heap_other he, World.putObj_heap_other he]; exact hm.same.block k hk hn⟩⟩

theorem putObj_putObj (w : World) (r : Nat) (o o' : Obj) : (w.putObj r o).putObj r o' = w.putObj r o' := by simp [World.putObj]
theorem putObj_id {w : World} {r : Nat} {o : Obj} (h : w.heap[r]? = some o) : w.putObj r o = w := by
  have hlt : r < w.heap.size := by
    rcases Nat.lt_or_ge r w.heap.size with h' | h'
    · exact h'
    · rw [Array.getElem?_eq_none h'] at h; cases h
  have : w.heap.setIfInBounds r o = w.heap := by
    apply Array.ext_getElem?
    intro i
    rw [Array.getElem?_setIfInBounds]
    split
    · rename_i he; subst he; rw [h]; try simp [hlt]
    · rfl
  simp [World.putObj, this]

section rules
variable {P : Program} {Q : Exit → Act → World → Prop} {n : Nat} {e : Env} {Γ Γ' Γc : List Chunk} {S : List Nat} {w0 : World} {ops : Array Oper} {rest : List Oper}
variable {ty : TypeId} {d : Nat} {pos : String} {after : Array Edge} {g : Option (Nat × Bool)} {t t' el : TypeId} {x y ix : Operand}

theorem WL_callS {G : Type} {facts : G → Prop} {V : G → Value} {Δ' : G → List Chunk} {f : FuncId} {l : List Operand} {ts : Array TypeId} {vs : List Value} {Δ A : List Chunk} [CallOk P f]
    (hw : wantedE ops e g = some true) (hd : Nat.blt d n = true) (hargs : evs e l = some vs) (hΔ : Take Δ Γ A)
    (hspec : ∀ w, Mem Γ S w0 w → Mem Δ (idsOf Δ) w w → Calls P f vs.toArray w (GivesS facts V Δ' (idsOf Δ) w))
    (h : ∀ x, facts x → WL P ops Q rest n ((d, V x) :: e) (Δ' x ++ A) S w0) :
    WL P ops Q (⟨some d, .call ⟨.value (.func f), l.toArray, ts⟩, ty, pos, after, g⟩ :: rest) n e Γ S w0 :=
  WL_loud hw fun a w st => by
    unfold Oper.wp
    rw [run_call st.fits hargs, Oper.upon_enter]
    refine (hspec w st.mem (st.mem.part hΔ.perm)).mono fun en w' hr => ?_
    cases en with
    | returned v =>
      obtain ⟨x, hx, rfl, hm'⟩ := hr
      exact h x hx _ _ ⟨st.fits.put (Nat.le_of_ble_eq_true hd), st.mem.frame hΔ.perm (.refl _) hm'⟩
    | panicked c => exact hr.elim
    | outgrown => exact hr.elim

/-- What a call of yield gives: the loop goes on, and this holds. -/
def Yields' (P : Program) (L : Nat) (args : Array Value) (w : World) (R : World → Prop) : Prop :=
  ∀ m, YieldAt Fence.wide m P L args w fun en w' => en = .returned (.bool true) ∧ R w'

/-- A region that calls yield once. -/
theorem WC_region_yield {id L : Nat} {l1 l2 : List Oper} {f z : Operand} {ts : Array TypeId} {G : Type} {factsY : G → Prop} {Δ : G → List Chunk} {v : Value} {K : Act → World → Prop} {envY : Env} {ΓY : List Chunk}
    (hnd1 : noDefer l1 = true) (hnd2 : noDefer l2 = true)
    (h1 : WL P (l1 ++ ⟨some d, .call ⟨.value f, #[z], ts⟩, ty, pos, after, none⟩ :: l2).toArray (OnlyN fun a w => St n envY ΓY S w0 a w) l1 n e Γ S w0)
    (hf : ev envY f = some (.func (.yield L) #[] #[])) (hz : ev envY z = some v) (hd : Nat.blt d n = true)
    (hy : ∀ w, Mem ΓY S w0 w → Yields' P L #[v] w fun w' => ∃ g, factsY g ∧ Mem (Δ g) S w0 w')
    (h2 : ∀ g, factsY g → WL P (l1 ++ ⟨some d, .call ⟨.value f, #[z], ts⟩, ty, pos, after, none⟩ :: l2).toArray (OnlyN K) l2 n ((d, .bool true) :: envY) (Δ g) S w0)
    (hK : ∀ a w, K a w → Q .normal a w) :
    WC P (.region id (l1 ++ ⟨some d, .call ⟨.value f, #[z], ts⟩, ty, pos, after, none⟩ :: l2).toArray false) Q n e Γ S w0 := fun a w st => by
  refine wpIn_wide.1 (show (Code.region id _ false).wpIn (wideAt none) 0 P Q a w from ?_)
  refine wpIn_region_lit ?_
  refine list_lift (K := fun a w => St n envY ΓY S w0 a w) l1 _ a w (fun o ho c => noDefer.spec hnd1 o ho c) (fun a' w' st' => ?_) (h1 a w st)
  refine wpListIn_plain rfl fun K' hK' => ?_
  refine ⟨fun _ _ => trivial, ?_⟩
  obtain ⟨fn, tmps, assign, body, hrun, hround⟩ := hy w' st'.mem 0
  have hex : (execOp a'.eval ⟨some d, .call ⟨.value f, #[z], ts⟩, ty, pos, after, none⟩).run P w' = .ok (.round L fn tmps assign body) w' := by
    simp only [execOp, resolve, Deferred.ofValue, Sem.run_bind, Sem.run_pure, Result.andThen_ok, invoke, List.map_toArray, List.map_cons, List.map_nil, st'.fits.eval hf, st'.fits.eval hz]
    simpa using hrun
  rw [Oper.semAt_plain (wideAt none) _ _ (fun c h => by cases h), hex, Oper.uponIn_round]
  refine ⟨fun h => by simp [Fence.wide] at h, RoundIn.mono hround fun en w'' hr => ?_⟩
  obtain ⟨rfl, g, hfy, hm⟩ := hr
  refine hK' _ _ ?_
  have := list_lift (ro := none) (m := 0) (Q := Q) l2 [] _ w'' (fun o ho c => noDefer.spec hnd2 o ho c) (fun a w h => hK a w h) (h2 g hfy _ w'' ⟨st'.fits.put (Nat.le_of_ble_eq_true hd), hm⟩)
  rwa [List.append_nil] at this
end rules
section rules
variable {P : Program} {Q : Exit → Act → World → Prop} {n : Nat} {e : Env} {Γ Γ' Γc : List Chunk} {S : List Nat} {w0 : World} {ops : Array Oper} {rest : List Oper}
variable {ty : TypeId} {d : Nat} {pos : String} {after : Array Edge} {g : Option (Nat × Bool)} {t t' el : TypeId} {x y ix : Operand}

theorem QX_retG {fn : Func} {R : Ending → World → Prop} {l : List ResultVar} {vs : List Value} (hl : fn.results = l.toArray) (hv : ResV P e Γ S w0 l vs) (h : ∀ w, Mem Γ S w0 w → R (.returned (packed vs)) w) :
    QX .ret (bodyPost P fn R) n e Γ S w0 := fun a w st =>
  ⟨st.fits.defers, _, run_results (by rw [hl]; exact hv.run st.fits st.mem), h w st.mem⟩
theorem QX_endG {fn : Func} {R : Ending → World → Prop} {l : List ResultVar} {vs : List Value} (hl : fn.results = l.toArray) (hv : ResV P e Γ S w0 l vs) (h : ∀ w, Mem Γ S w0 w → R (.returned (packed vs)) w) :
    QX .normal (bodyPost P fn R) n e Γ S w0 := fun a w st =>
  ⟨st.fits.defers, _, run_results (by rw [hl]; exact hv.run st.fits st.mem), h w st.mem⟩

/-- `[]T{}` -/
theorem WL_build0 {sz : Nat} [hu : Und P t (.slice el)] [hz : Sz P el sz] (hw : wantedE ops e g = some true) (hd : Nat.blt d n = true)
    (h : ∀ b, WL P ops Q rest n ((d, .slice (some ⟨b, 0, none⟩) 0 0) :: e) (.sl (.slice (some ⟨b, 0, none⟩) 0 0) 0 [] el sz :: Γ) S w0) :
    WL P ops Q (⟨some d, .buildSlice t 0 #[], ty, pos, after, g⟩ :: rest) n e Γ S w0 :=
  WL_loud hw fun a w st => by
    have hz' := hz.h
    cases hie : P.info? el with
    | none => simp [hie] at hz'
    | some ie =>
      have hr : (Instr.buildSlice t 0 #[]).run P w = .ok (.slice (some ⟨w.heap.size, 0, none⟩) 0 0) (w.alloc (.cells #[] el)) := by
        unfold Instr.buildSlice
        have e0 : ∀ f : Nat → Value, (Array.range 0).map f = #[] := fun f => Array.eq_empty_of_size_eq_zero (by simp)
        simp [run_underlying hu.h, sizeOf, typeInfo, hie, Instr.fill, newRow, e0]
      unfold Oper.wp
      have hr' : (execOp a.eval ⟨some d, .buildSlice t 0 #[], ty, pos, after, g⟩).run P w = .ok (.value (.slice (some ⟨w.heap.size, 0, none⟩) 0 0)) (w.alloc (.cells #[] el)) := by
        simp only [execOp, Sem.run_bind, List.map_toArray, List.map_nil, hr, Result.andThen_ok, Sem.run_pure]
      rw [hr', Oper.upon_value]
      refine h _ _ _ ⟨st.fits.put (Nat.le_of_ble_eq_true hd), ?_⟩
      refine st.mem.turn (Δ := []) (Δ' := [.sl (.slice (some ⟨w.heap.size, 0, none⟩) 0 0) 0 [] el sz]) (A := Γ) (.refl _) (.refl _) rfl rfl rfl (by simp) (fun k hk _ => by show (w.heap.push _)[k]? = w.heap[k]?; rw [Array.getElem?_push]; simp; omega) (fun c hc => ?_) (by simp [idsOf, Chunk.ids]) (fun i hi => by simp [idsOf, Chunk.ids] at hi; subst hi; exact .inr (Nat.le_refl _))
      simp at hc; subst hc
      refine ⟨⟨by simp, .inr ⟨w.heap.size, 0, #[], rfl, Nat.zero_le _, ?_, Nat.le_refl _, by unfold maxLen; omega, by simp, by simp⟩⟩, by simp⟩
      show (w.heap.push _)[w.heap.size]? = _
      simp

theorem val_makeFunc {fn : FuncId} {l : List Operand} {vs : List Value} (h : evs e l = some vs) :
    Val P ⟨some d, .makeFunc (.func fn) #[] l.toArray, ty, pos, after, g⟩ n e Γ S w0 (.func (.func fn) #[] vs.toArray) := fun a w hf _ => by
  have := evs.spec hf l vs h
  simp only [execOp, Instr.makeFunc, Sem.run_bind, Sem.run_pure, Result.andThen_ok, List.map_toArray, this]
  rfl
end rules

end Go.PK

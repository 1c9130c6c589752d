/- StateApart: states that differ have unlike bytes. (Part 3: K16, K17, K18.) -/
import Derived.Test.YtdmfjpjhibhmhaaApb
import Derived.Laws.Small

/- The calculus: slices with three bounds, min. -/
namespace Go.PK
attribute [local semireducible] Val Rd
theorem Sel.refl : ∀ (Γ : List Chunk), Sel Γ Γ
  | [] => .nil
  | _ :: r => .cons .head (Sel.refl r)

section rules
variable {P : Program} {Q : Exit → Act → World → Prop} {n : Nat} {e : Env} {Γ Γ' Γc : List Chunk} {S : List Nat} {w0 : World} {ops : Array Oper} {rest : List Oper}
variable {ty : TypeId} {d : Nat} {dn : Option Nat} {pos : String} {after : Array Edge} {g : Option (Nat × Bool)} {t t' el : TypeId} {x y ix lo hi mx : Operand}

theorem val_slice3 {b o m c l h j : Nat} {k k' k'' : IntKind} [hu : Und P t (.slice el)] [hz : Sz P el 1] (hx : ev e x = some (.slice (some ⟨b, o, none⟩) m c)) (hl : ev e lo = some (.int k (l : Int))) (hh : ev e hi = some (.int k' (h : Int))) (hm : ev e mx = some (.int k'' (h : Int)))
    (hj : h = l + j) (h1 : 0 < j) (h2 : h ≤ c) : Val P ⟨dn, .slice t x (some lo) (some hi) (some mx), ty, pos, after, g⟩ n e Γ S w0 (.slice (some ⟨b, o + l, none⟩) j j) := fun a w hf _ => by
  have e0 := run_sliceBound (P := P) (code := .slice3Acap) (y := c) (hf.eval hm) (by omega) (by omega) w
  have e1 := run_sliceBound (P := P) (code := .slice3B) (y := (h : Int).toNat) (hf.eval hh) (by omega) (by omega) w
  have e2 := run_sliceBound (P := P) (code := .slice3C) (y := (h : Int).toNat) (hf.eval hl) (by omega) (by omega) w
  simp only [Int.toNat_natCast] at e0 e1 e2
  simp [execOp, hf.eval hx, Instr.sliceAt, Instr.slice, hu.run, Instr.sliceBounds, e0, e1, e2, hz.run, Addr.add_mid, show ¬ h = l from by omega, show h - l = j from by omega]

theorem WL_min {a b : Nat} {ts : Array TypeId} (hw : wantedE ops e g = some true) (hd : Nat.blt d n = true) (hx : ev e x = some (.int .i64 (a : Int))) (hy : ev e y = some (.int .i64 (b : Int))) (hab : a ≤ b)
    (h : WL P ops Q rest n ((d, .int .i64 (a : Int)) :: e) Γ S w0) : WL P ops Q (⟨some d, .call ⟨.builtin .min, #[x, y], ts⟩, ty, pos, after, g⟩ :: rest) n e Γ S w0 :=
  WL_loud hw fun ac w st => by
    unfold Oper.wp
    have hr : (execOp ac.eval ⟨some d, .call ⟨.builtin .min, #[x, y], ts⟩, ty, pos, after, g⟩).run P w = .ok (.value (.int .i64 (a : Int))) w := by
      simp only [execOp, resolve, Sem.run_bind, Sem.run_pure, Result.andThen_ok, invoke, builtin, List.map_toArray, List.map_cons, List.map_nil, st.fits.eval hx, st.fits.eval hy, run_min_int2]
      rw [if_neg (by omega)]
    rw [hr, Oper.upon_value]
    exact h _ _ ⟨st.fits.put (Nat.le_of_ble_eq_true hd), st.mem⟩

theorem val_sliceLoN {b o m c l : Nat} {k : IntKind} [Und P t (.slice el)] [Sz P el 1] (hx : ev e x = some (.slice (some ⟨b, o, none⟩) m c)) (hl : ev e lo = some (.int k (l : Int))) (h1 : l ≤ m) :
    Val P ⟨dn, .slice t x (some lo) none none, ty, pos, after, g⟩ n e Γ S w0 (.slice (subA b o l c) (m - l) (c - l)) := by
  have := val_slice_lo (P := P) (d := dn) (ty := ty) (pos := pos) (after := after) (g := g) (t := t) (n := n) (Γ := Γ) (S := S) (w0 := w0) hx hl (by omega) (by omega)
  simp only [Int.toNat_natCast, Nat.mul_one] at this
  split at this <;> simp_all [subA]

theorem QX_onlySt {envY : Env} {ΓY : List Chunk} (hs : Sub envY e) (hΔ : Sel ΓY Γ) : QX .normal (OnlyN fun a w => St n envY ΓY S w0 a w) n e Γ S w0 := fun _ _ st => ⟨st.fits.sub hs, st.mem.sel hΔ⟩
theorem QX_onlyJoin {G : Type} {facts : G → Prop} {env : G → Env} {Δ : G → List Chunk} (γ : G) (hf : facts γ) (hs : Sub (env γ) e) (hΔ : Sel (Δ γ) Γ) : QX .normal (OnlyN (Joins facts env Δ n S w0)) n e Γ S w0 :=
  fun _ _ st => ⟨γ, hf, st.fits.sub hs, st.mem.sel hΔ⟩

/-- A region whose operation j calls yield. -/
theorem WC_yield {id L : Nat} {l : List Oper} {f z : Operand} {ts : Array TypeId} {G G' : Type} {v : Value} (j : Nat) (envY : Env) (ΓY : List Chunk) (factsY : G → Prop) (Δ : G → List Chunk) (facts' : G' → Prop) (env' : G' → Env) (Δ' : G' → List Chunk)
    (hl : l = l.take j ++ (⟨some d, .call ⟨.value f, #[z], ts⟩, ty, pos, after, none⟩ : Oper) :: l.drop (j + 1))
    (hnd1 : noDefer (l.take j) = true) (hnd2 : noDefer (l.drop (j + 1)) = true)
    (hf : ev envY f = some (.func (.yield L) #[] #[])) (hz : ev envY z = some v) (hd : Nat.blt d n = true)
    (hy : ∀ w, Mem ΓY S w0 w → Yields' P L #[v] w fun w' => ∃ γ, factsY γ ∧ Mem (Δ γ) S w0 w')
    (h1 : WL P l.toArray (OnlyN fun a w => St n envY ΓY S w0 a w) (l.take j) n e Γ S w0)
    (h2 : ∀ γ, factsY γ → WL P l.toArray (OnlyN (Joins facts' env' Δ' n S w0)) (l.drop (j + 1)) n ((d, .bool true) :: envY) (Δ γ) S w0)
    (hK : ∀ γ, facts' γ → QX .normal Q n (env' γ) (Δ' γ) S w0) :
    WC P (.region id l.toArray false) Q n e Γ S w0 := by
  generalize l.take j = l1 at *
  generalize l.drop (j + 1) = l2 at *
  subst hl
  exact WC_region_yield hnd1 hnd2 h1 hf hz hd hy h2 (fun a w ⟨γ, hγ, st⟩ => hK γ hγ a w st)
end rules
end Go.PK

/- The calculus: the statement that ranges over a function, and its rounds. -/
namespace Go.PK
attribute [local semireducible] Val Rd


theorem calls_enterM {P : Program} {f : FuncId} {fn : Func} {c : Code} {l : List Value} {w : World} {R : Ending → World → Prop} {n : Nat} {Γ : List Chunk} {S : List Nat}
    (hf : P.funcs[f]? = some fn) (hb : fn.body = some c) (hn : fn.ntmps = n) (hl : Nat.ble l.length n = true) (hm : Mem Γ S w w) (h : WC P c (bodyPostM Fence.wide 0 P fn R) n (envOf l 0) Γ S w) :
    Calls P f l.toArray w R :=
  callsIn_wide.1 (callsIn_of_wp_marks (F := Fence.wide) (n := 0) hf hb trivial (wpIn_wide.2 (h _ _ ⟨⟨by have := Nat.le_of_ble_eq_true hl; simp [hn]; omega, rfl, fun t v ht => by
    obtain ⟨_, h2⟩ := lk_envOf l 0 t v ht
    have hlt : t < l.length := by
      rcases Nat.lt_or_ge t l.length with h' | h'
      · exact h'
      · simp [List.getElem?_eq_none h'] at h2
    simp only [Nat.sub_zero] at h2
    rw [Array.getElem?_append_left (by simpa using hlt)]
    simpa using h2⟩, hm⟩)) rfl)

/-- the record of a loop that waits -/
abbrev recOf (fn : FuncId) (tmps : Array Value) (ps : Array Tmp) (assign body : Code) (D : Nat) (st : LoopState) : Loop := { state := st, pending := none, fn, tmps, params := ps, assign, body, defers := D }

theorem alloc_keeps (w : World) (o : Obj) (k : Nat) (h : k < w.heap.size) : (w.alloc o).heap[k]? = w.heap[k]? := by
  show (w.heap.push _)[k]? = w.heap[k]?; rw [Array.getElem?_push]; simp; omega

theorem Old.other {W1 W2 : World} {S : List Nat} {sz L m : Nat} {v : Value} {vs : List Value} {o : Obj} (h : Old W1 S sz v m vs) (hL : W1.heap[L]? = some o) (hc : o.isCells = false) (h2 : ∀ r, r ≠ L → W2.heap[r]? = W1.heap[r]?) : Old W2 S sz v m vs := by
  refine ⟨h.1.mono fun b o' vs hr j u hj => ?_, h.2⟩
  have h3 := hr j u hj
  have hb : b ≠ L := fun he => by
    subst he
    simp only [World.cell?, hL] at h3
    cases o <;> simp [Obj.isCells] at hc h3
  rw [← h3]
  exact World.cell?_of_block (h2 b hb)

theorem Sel.weak {Δ Γ : List Chunk} {c : Chunk} (h : Sel Δ Γ) : Sel Δ (c :: Γ) := by
  induction h generalizing c with
  | nil => exact .nil
  | cons hp _ ih => exact .cons (.tail hp) ih
theorem Sel.snoc : ∀ (A : List Chunk) (c : Chunk), Sel (A ++ [c]) (c :: A)
  | [], _ => .cons .head .nil
  | _ :: A, c => .cons (.tail .head) (Sel.snoc A c)
theorem Old.cap {w S sz b o m c c' vs} (h : Old w S sz (.slice (some ⟨b, o, none⟩) m c) m vs) (hc : m ≤ c') : Old w S sz (.slice (some ⟨b, o, none⟩) m c') m vs := by
  obtain ⟨h1, h2⟩ := h
  cases h1 with
  | mk _ hr hl => exact ⟨.mk hc hr hl, h2⟩

section rules
variable {P : Program} {Q : Exit → Act → World → Prop} {n : Nat} {e : Env} {Γ Γ' Γc : List Chunk} {S : List Nat} {w0 : World} {ops : Array Oper} {rest : List Oper}

theorem WC_rangeFunc {gf : FuncId} {lb : Array Value} {gop : Operand} {ps : Array Tmp} {assign body : Code} [hc : CallOk P gf] (hg : ev e gop = some (.func (.func gf) #[] lb))
    (h : ∀ a W fn W1, St n e Γ S w0 a W → Mem Γ S w0 W1 → W1.heap.size = W.heap.size + 2 → w0.heap.size ≤ W.heap.size →
      W1.heap[W.heap.size + 1]? = some (.loop (recOf fn a.tmps ps assign body W.heap.size .ready)) → W1.heap[W.heap.size]? = some (.deferred (some [])) →
      Calls P gf (#[.func (.yield (W.heap.size + 1)) #[] #[]] ++ lb) W1 fun en w3 => (∃ v, en = .returned v) ∧ w3.heap[W.heap.size + 1]? = some (.loop (recOf fn a.tmps ps assign body W.heap.size .ready)) ∧
        Q .normal (withD [{ target := .collected W.heap.size, args := #[] }] a) (w3.putObj (W.heap.size + 1) (.loop (recOf fn a.tmps ps assign body W.heap.size .exhausted)))) :
    WC P (.rangeFunc gop ps assign body) Q n e Γ S w0 := fun a W st => by
  refine wpIn_wide.1 (show (Code.rangeFunc gop ps assign body).wpIn Fence.wide 0 P Q a W from wpIn_rangeFunc ?_)
  intro fn _
  obtain ⟨W1, hW1⟩ : ∃ W1, (W.alloc (.deferred (some []))).alloc (.loop (recOf fn a.tmps ps assign body W.heap.size .ready)) = W1 := ⟨_, rfl⟩
  have hL1 : W1.heap[W.heap.size + 1]? = some (.loop (recOf fn a.tmps ps assign body W.heap.size .ready)) := by
    rw [← hW1]; have := World.alloc_heap_new (W.alloc (.deferred (some []))) (.loop (recOf fn a.tmps ps assign body W.heap.size .ready)); rwa [World.size_alloc] at this
  have hK1 : W1.heap[W.heap.size]? = some (.deferred (some [])) := by
    rw [← hW1]; exact (alloc_keeps _ _ _ (by simp)).trans (World.alloc_heap_new W _)
  have hm1 : Mem Γ S w0 W1 := by rw [← hW1]; exact (st.mem.alloc_obj _).alloc_obj _
  have hd : a.defers = [] := st.fits.defers
  refine ⟨W.heap.size + 1, [{ target := .collected W.heap.size, args := #[] }], W1, { target := .fn (.func gf) lb, args := #[.func (.yield (W.heap.size + 1)) #[] #[]] }, W1, gf,
    #[.func (.yield (W.heap.size + 1)) #[] #[]] ++ lb, W1, ?_, ?_, fun _ _ => trivial, ?_, fun h => by simp [Fence.wide] at h, ?_⟩
  · rw [← hW1]; exact run_enterLoop_outer _ _ _ _ _
  · simp only [resolve, st.fits.eval hg]
    simp [go_sem]
  · simp only [invoke]
    have := hc.run (#[.func (.yield (W.heap.size + 1)) #[] #[]] ++ lb) W1
    simpa using this
  · refine callsIn_wide.2 ((h a W fn W1 st hm1 (by rw [← hW1]; simp) st.mem.same.size hL1 hK1).mono fun en w3 hr => ?_)
    obtain ⟨⟨v, rfl⟩, hl, hq⟩ := hr
    refine ⟨none, _, run_endLoop hl (by simp), ?_⟩
    simpa [withD, hd] using hq

theorem QX_onlyMem {G : Type} {facts : G → Prop} {Δ : G → List Chunk} (γ : G) (hf : facts γ) (hΔ : Sel (Δ γ) Γ) : QX .normal (OnlyN fun _ w => ∃ γ, facts γ ∧ Mem (Δ γ) S w0 w) n e Γ S w0 :=
  fun _ _ st => ⟨γ, hf, st.mem.sel hΔ⟩

/-- One round, by the walk of its body. -/
theorem yields_of_round {G : Type} {L p id1 id2 id3 D : Nat} {fn : FuncId} {tmps : Array Value} {l1 l3 : List Oper} {v : Value} {W1 : World} {facts : G → Prop} {Δ' : G → List Chunk} (Γc : List Chunk) (ks : List Kd) (eB : Env)
    (hmix : P.follows .mixedOrders = true) (hpl : planOk l3.toArray ks = true) (hnd1 : noDefer l1 = true) (hnd3 : noDefer l3 = true) (hs : Sel Γc Γ)
    (hrec : W1.heap[L]? = some (.loop (recOf fn tmps #[p] (.region id1 l1.toArray false) (.block id2 (.region id3 l3.toArray true)) D .ready))) (hLS : L ∉ S)
    (hfit : Fits n e { tmps := tmps, defers := [] }) (hp : Nat.blt p n = true)
    (ha : WL P l1.toArray (OnlyN fun a w => St n eB Γ S W1 a w) l1 n ((p, v) :: e) Γ S W1)
    (hb : ∀ W2 : World, (∀ r, r ≠ L → W2.heap[r]? = W1.heap[r]?) → WD P l3.toArray (OnlyN fun _ w => ∃ γ, facts γ ∧ Mem (Δ' γ) S W2 w) Γc ks l3 n eB Γ S W2) :
    ∀ w', Mem Γ S W1 w' → Yields' P L #[v] w' fun w'' => ∃ γ, facts γ ∧ Mem (Δ' γ) S W1 w'' := fun w' hm m => by
  have hlt : L < W1.heap.size := by
    rcases Nat.lt_or_ge L W1.heap.size with h' | h'
    · exact h'
    · rw [Array.getElem?_eq_none h'] at hrec; cases hrec
  obtain ⟨rec, hr⟩ : ∃ rec : LoopState → Loop, rec = fun st => recOf fn tmps #[p] (.region id1 l1.toArray false) (.block id2 (.region id3 l3.toArray true)) D st := ⟨_, rfl⟩
  have hL : ∀ {w : World}, Mem Γ S W1 w → w.heap[L]? = some (.loop (rec .ready)) := fun h => by rw [h.same.block L hlt hLS, hrec]; subst hr; rfl
  have hy := run_yield (P := P) (args := #[v]) (hL hm) (by subst hr; rfl)
  refine ⟨_, _, _, _, hy, roundIn_of_wpIn (F := Fence.wide) trivial ?_⟩
  have hst : St n ((p, v) :: e) Γ S W1 (({ tmps := tmps, defers := [] } : Act).put (some p) v) w' := ⟨hfit.put (Nat.le_of_ble_eq_true hp), hm⟩
  have htm : ((rec .ready).params.zip #[v]).foldl (fun tmps (x : Tmp × Value) => tmps.setIfInBounds x.1 x.2) (rec .ready).tmps = (({ tmps := tmps, defers := [] } : Act).put (some p) v).tmps := by subst hr; simp [Act.put]
  rw [htm]
  have hact : ({ tmps := (({ tmps := tmps, defers := [] } : Act).put (some p) v).tmps, defers := [] } : Act) = (({ tmps := tmps, defers := [] } : Act).put (some p) v) := rfl
  rw [hact, show (rec .ready).assign = .region id1 l1.toArray false from by rw [hr], show (rec .ready).body = .block id2 (.region id3 l3.toArray true) from by subst hr; rfl]
  refine wpIn_region_lit (F := wideAt (some L)) ?_
  have hl := list_lift (ro := some L) (m := m) (K := fun a w => St n eB Γ S W1 a w) (ops := l1.toArray)
    (Q := Exit.then (fun a₁ w₁ => ∃ w₂, (Instr.beginRound L).run P w₁ = .ok () w₂ ∧ (Code.block id2 (.region id3 l3.toArray true)).wpIn (wideAt (some L)) m P (roundPost P L fun en w'' => en = .returned (.bool true) ∧ ∃ γ, facts γ ∧ Mem (Δ' γ) S W1 w'') a₁ w₂) (fun _ _ _ => False))
    l1 [] _ w' (fun o ho c => noDefer.spec hnd1 o ho c) (fun a1 w1 st1 => ?_) (ha _ w' hst)
  · rwa [List.append_nil] at hl
  · -- the body
    refine ⟨_, run_beginRound (hL st1.mem) (by subst hr; rfl), wpIn_block ?_⟩
    have hnot : ∀ {w : World} {Γ' : List Chunk} {W2 : World} {o : Obj}, Mem Γ' S W2 w → w.heap[L]? = some o → o.isCells = false → L ∉ idsOf Γ' := fun h h1 h2 => h.other h1 h2
    have hm2 := st1.mem.putBoth (.loop (rec .busy)) (st1.mem.other (hL st1.mem) rfl) hlt
    have e1 : (.loop { rec .ready with state := .busy } : Obj) = .loop (rec .busy) := by subst hr; rfl
    rw [e1]
    refine wpIn_draw (ro := some L) (m := m) Γc ks hmix hpl hnd3 hs (K := fun _ w => ∃ γ, facts γ ∧ Mem (Δ' γ) S (W1.putObj L (.loop (rec .busy))) w) (fun a3 w3 h3 => ?_) (hb _ fun r hr' => World.putObj_heap_other hr') a1 _ ⟨st1.fits, hm2⟩
    obtain ⟨γ, hγ, hm3⟩ := h3
    have hL3 : w3.heap[L]? = some (.loop (rec .busy)) := by
      rw [hm3.same.block L (by rw [World.putObj_size]; exact hlt) hLS]; exact World.putObj_heap_same hlt
    refine (?_ : roundPost P L (fun en w'' => en = Ending.returned (.bool true) ∧ ∃ γ, facts γ ∧ Mem (Δ' γ) S W1 w'') .normal a3 w3)
    refine ⟨_, _, run_endRound none hL3, rfl, γ, hγ, ?_⟩
    have e2 : (.loop { rec .busy with state := if (none : Option Code).isNone = true then LoopState.ready else LoopState.done, pending := none } : Obj) = .loop (rec .ready) := by subst hr; rfl
    rw [e2]
    have hm4 := hm3.putBoth (.loop (rec .ready)) (hm3.other hL3 rfl) (by rw [World.putObj_size]; exact hlt)
    rw [putObj_putObj, putObj_id (show W1.heap[L]? = some (.loop (rec .ready)) from by rw [hrec, hr])] at hm4
    exact hm4
end rules
end Go.PK

/- The calculus: literals of structs and arrays in segments; more of numbers. -/
namespace Go.PK
attribute [local semireducible] Val Rd

theorem foldl_set_gen {cells : Array Value} : ∀ (vs : List Value) (off k : Nat), off + k + vs.length ≤ cells.size →
    ((vs.zipIdx k).foldl (fun (cs : Array Value) (x : Value × Nat) => cs.setIfInBounds (off + x.2) x.1) cells) = (cells.toList.take (off + k) ++ vs ++ cells.toList.drop (off + k + vs.length)).toArray
  | [], off, k, h => by simp
  | v :: vs, off, k, h => by
    simp only [List.zipIdx_cons, List.foldl_cons]
    simp at h
    rw [foldl_set_gen (cells := cells.setIfInBounds (off + k) v) vs off (k + 1) (by simp; omega)]
    congr 1
    have hs : (cells.setIfInBounds (off + k) v).toList = cells.toList.set (off + k) v := by simp
    rw [hs]
    rw [List.set_eq_take_append_cons_drop, if_pos (by simp; omega)]
    have hl : (cells.toList.take (off + k)).length = off + k := by simp; omega
    rw [List.take_append, List.drop_append, hl, List.take_of_length_le (l := cells.toList.take (off + k)) (by omega), List.drop_eq_nil_of_le (as := cells.toList.take (off + k)) (by omega),
      show off + (k + 1) - (off + k) = 1 from by omega, show off + (k + 1) + vs.length - (off + k) = vs.length + 1 from by omega]
    simp only [List.take_succ_cons, List.take_zero, List.drop_succ_cons, List.drop_drop, List.nil_append, List.append_assoc, List.cons_append, List.length_cons]
    congr 4
    omega

theorem foldl_set_run (cells : Array Value) (vs : List Value) (off : Nat) (h : off + vs.length ≤ cells.size) :
    (vs.toArray.zipIdx.foldl (fun (cs : Array Value) (x : Value × Nat) => cs.setIfInBounds (off + x.2) x.1) cells) = (cells.toList.take off ++ vs ++ cells.toList.drop (off + vs.length)).toArray := by
  have := foldl_set_gen (cells := cells) vs off 0 (by simpa using h)
  simp only [Nat.add_zero] at this
  rw [← this]
  simp

/-- A literal's parts, one behind the other, written into segments. -/
inductive Fills (place : Nat → Option (Nat × Nat)) : List Seg → List (Nat × Value) → List Seg → Prop
  | nil {s : List Seg} : Fills place s [] s
  | cons {s new s' s'' : List Seg} {i off k : Nat} {v : Value} {r : List (Nat × Value)} (hp : place i = some (off, k)) (hv : v.cells = (flat new).toArray) (hn : SegsOk new) (hs : PutSeg s off k new s') (h : Fills place s' r s'') :
      Fills place s ((i, v) :: r) s''

theorem Fills.run {place : Nat → Option (Nat × Nat)} {s s' : List Seg} {l : List (Nat × Value)} (h : Fills place s l s') (hs : SegsOk s) : SegsOk s' ∧ Instr.fill place (flat s).toArray l = some (flat s').toArray := by
  induction h with
  | nil => exact ⟨hs, rfl⟩
  | @cons s new s1 s2 i off k v r hp hv hn hq h ih =>
    obtain ⟨⟨p1, p2, p3⟩, hk⟩ := hq.spec hs hn
    obtain ⟨i1, i2⟩ := ih p1
    refine ⟨i1, ?_⟩
    have hl : (flat new).length = k := by rw [flat_length new hn, hk]
    have hw : (flat s).length = width s := flat_length s hs
    simp only [Instr.fill, hp, hv, List.size_toArray, hl]
    rw [if_neg (by simp; omega)]
    rw [foldl_set_run _ _ _ (by simp; omega), ← i2, p2, hl]

section rules
variable {P : Program} {Q : Exit → Act → World → Prop} {n : Nat} {e : Env} {Γ Γ' Γc Δ A : List Chunk} {S : List Nat} {w0 : World} {ops : Array Oper} {rest : List Oper} {o : Oper} {ks : List Kd}
variable {ty : TypeId} {d : Option Nat} {pos : String} {after : Array Edge} {g : Option (Nat × Bool)} {t t' el : TypeId} {x y ix lo hi : Operand}

theorem argsOf {n e a} (hf : Fits n e a) : ∀ (ps : List (Nat × Operand)) (vs : List (Nat × Value)), ps.map (fun p => (p.1, ev e p.2)) = vs.map (fun p => (p.1, some p.2)) → (ps.toArray.map fun (p : Nat × Operand) => (p.1, a.eval p.2)).toList = vs := by
  have key : ∀ (ps : List (Nat × Operand)) (vs : List (Nat × Value)), ps.map (fun p => (p.1, ev e p.2)) = vs.map (fun p => (p.1, some p.2)) → ps.map (fun p => (p.1, a.eval p.2)) = vs := by
    intro ps
    induction ps with
    | nil => intro vs h; cases vs with
      | nil => rfl
      | cons b r => simp at h
    | cons p ps ih => intro vs h; cases vs with
      | nil => simp at h
      | cons b r =>
        simp only [List.map_cons, List.cons.injEq, Prod.mk.injEq] at h ⊢
        obtain ⟨⟨h1, h2⟩, h3⟩ := h
        rw [ih r h3, hf.eval h2, h1]
        exact ⟨rfl, rfl⟩
  intro ps vs h
  simpa using key ps vs h

/-- where a struct type's fields lie -/
class Places (P : Program) (t : TypeId) (pl : outParam (List (Nat × Nat))) : Prop where
  h : placesOf P t = some pl

/-- `T{f: x, ..}`, in segments -/
theorem val_buildS {ps : List (Nat × Operand)} {vs : List (Nat × Value)} {pl : List (Nat × Nat)} {q q' : List Seg} [hze : Zer P t q] [hpl : Places P t pl]
    (hargs : ps.map (fun p => (p.1, ev e p.2)) = vs.map (fun p => (p.1, some p.2))) (hfill : Fills (pl.toArray[·]?) q vs q') :
    Val P ⟨d, .build t ps.toArray, ty, pos, after, g⟩ n e Γ S w0 (aggS q') := val_build hpl.h hargs (hfill.run hze.ok).2

/-- `[n]T{x, ..}` -/
theorem val_buildArr {ps : List (Nat × Operand)} {vs : List (Nat × Value)} {z len : Nat} {q q' : List Seg} [hze : Zer P t q] [hu : Und P t (.array len el)] [hz : Sz P el z]
    (hargs : ps.map (fun p => (p.1, ev e p.2)) = vs.map (fun p => (p.1, some p.2))) (hfill : Fills (fun i => some (i * z, z)) q vs q') :
    Val P ⟨d, .build t ps.toArray, ty, pos, after, g⟩ n e Γ S w0 (aggS q') := fun a w hf _ => by
  have hv := argsOf hf ps vs hargs
  have hze' := hze.h
  cases hie : P.info? t with
  | none => simp [hie] at hze'
  | some ie =>
    simp [hie] at hze'
    obtain ⟨zz, hzz, hze'⟩ : ∃ z, ie.zero = some z ∧ z.cells = (flat q).toArray := by
      cases hzz : ie.zero with
      | none => simp [hzz] at hze'
      | some z => simp [hzz] at hze'; exact ⟨z, rfl, hze'⟩
    have hrun : (Instr.build t (ps.toArray.map fun (p : Nat × Operand) => (p.1, a.eval p.2))).run P w = .ok (aggS q') w := by
      unfold Instr.build
      simp only [Sem.run_bind, zeroValue, typeInfo, run_program, Result.andThen_ok, hie, Sem.run_pure, hzz, run_underlying hu.h, hz.run, hv, hze', (hfill.run hze.ok).2, aggS]
    rw [List.map_toArray] at hrun
    simp [execOp, hrun]

theorem val_indexS {k : IntKind} {i : Int} {len z : Nat} {q q' : List Seg} [hu : Und P t (.array len el)] [hz : Sz P el z] [IsAgg P el] (hx : ev e x = some (aggS q)) (hi : ev e ix = some (.int k i)) (h0 : 0 ≤ i) (h1 : i < len) (hok : SegsOk q)
    (hq : spanAt q (i.toNat * z) z = some q') : Val P ⟨d, .index t x ix, ty, pos, after, g⟩ n e Γ S w0 (aggS q') := val_index hx hi h0 h1 (spanAt_spec hok hq).2.2.1

theorem val_indexS1 {k : IntKind} {i : Int} {len : Nat} {q : List Seg} {v : Value} [hu : Und P t (.array len el)] [hz : Sz P el 1] [IsPlain P el] (hx : ev e x = some (aggS q)) (hi : ev e ix = some (.int k i)) (h0 : 0 ≤ i) (h1 : i < len) (hok : SegsOk q)
    (hq : spanAt q i.toNat 1 = some [(1, [v])]) : Val P ⟨d, .index t x ix, ty, pos, after, g⟩ n e Γ S w0 v := val_index1 hx hi h0 h1 (by
  have h2 := (spanAt_spec hok hq).2.2.1
  have h3 : (((flat q).drop i.toNat).take 1)[0]? = some v := by rw [← h2]; rfl
  rw [List.getElem?_take] at h3
  simpa using h3)

section ints
variable {a b : Nat}
theorem val_subU (hx : ev e x = some (.int .u64 (a : Int))) (hy : ev e y = some (.int .u64 (b : Int))) (h : b ≤ a) (h64 : a < 18446744073709551616) :
    Val P ⟨d, .binOp .sub t x y t', ty, pos, after, g⟩ n e Γ S w0 (.int .u64 ((a - b : Nat) : Int)) := by
  have := val_sub (P := P) (n := n) (Γ := Γ) (S := S) (w0 := w0) (d := d) (ty := ty) (pos := pos) (after := after) (g := g) (t := t) (t' := t') hx hy
  rwa [wrap_u64 (by omega) (by omega), show (a : Int) - b = ((a - b : Nat) : Int) from by omega] at this
theorem val_addUN (hx : ev e x = some (.int .u64 (a : Int))) (hy : ev e y = some (.int .u64 (b : Int))) (h : a + b < 18446744073709551616) :
    Val P ⟨d, .binOp .add t x y t', ty, pos, after, g⟩ n e Γ S w0 (.int .u64 ((a + b : Nat) : Int)) := by
  have := val_addU (P := P) (n := n) (Γ := Γ) (S := S) (w0 := w0) (o := d) (ty := ty) (pos := pos) (after := after) (g := g) (t := t) (t' := t') hx hy
  rwa [Nat.mod_eq_of_lt h] at this
theorem val_mulUN (hx : ev e x = some (.int .u64 (a : Int))) (hy : ev e y = some (.int .u64 (b : Int))) (h : a * b < 18446744073709551616) :
    Val P ⟨d, .binOp .mul t x y t', ty, pos, after, g⟩ n e Γ S w0 (.int .u64 ((a * b : Nat) : Int)) := by
  have := val_mul (P := P) (n := n) (Γ := Γ) (S := S) (w0 := w0) (d := d) (ty := ty) (pos := pos) (after := after) (g := g) (t := t) (t' := t') hx hy
  rwa [show (a : Int) * b = ((a * b : Nat) : Int) from by simp, wrap_u64 (by omega) (by omega)] at this
theorem val_quoUN (hx : ev e x = some (.int .u64 (a : Int))) (hy : ev e y = some (.int .u64 (b : Int))) (hb : 0 < b) (h : a < 18446744073709551616) :
    Val P ⟨d, .binOp .quo t x y t', ty, pos, after, g⟩ n e Γ S w0 (.int .u64 ((a / b : Nat) : Int)) := by
  have := val_quoU (P := P) (n := n) (Γ := Γ) (S := S) (w0 := w0) (o := d) (ty := ty) (pos := pos) (after := after) (g := g) (t := t) (t' := t') hx hy (by omega) (by omega) (by omega)
  rwa [show (a : Int) / b = ((a / b : Nat) : Int) from by simp] at this
theorem val_remUN {k : IntKind} (hx : ev e x = some (.int k (a : Int))) (hy : ev e y = some (.int k (b : Int))) (hb : 0 < b) :
    Val P ⟨d, .binOp .rem t x y t', ty, pos, after, g⟩ n e Γ S w0 (.int k ((a % b : Nat) : Int)) := by
  have := val_remI (P := P) (n := n) (Γ := Γ) (S := S) (w0 := w0) (o := d) (ty := ty) (pos := pos) (after := after) (g := g) (t := t) (t' := t') hx hy (by omega) (by omega)
  rwa [show (a : Int) % b = ((a % b : Nat) : Int) from by simp] at this
end ints
end rules

/-! ## Sums -/
def sumU (l : List UInt64) : Nat := (l.map UInt64.toNat).sum
theorem sumU_cons (a : UInt64) (l : List UInt64) : sumU (a :: l) = a.toNat + sumU l := by simp [sumU]
theorem sumU_append (a b : List UInt64) : sumU (a ++ b) = sumU a + sumU b := by simp [sumU]
theorem sumU_take_succ (l : List UInt64) (i : Nat) (h : i < l.length) : sumU (l.take (i + 1)) = sumU (l.take i) + l[i].toNat := by
  rw [List.take_succ_eq_append_getElem h, sumU_append]; simp [sumU]
theorem sumU_take_le (l : List UInt64) (i : Nat) : sumU (l.take i) ≤ sumU l := by
  conv => rhs; rw [← List.take_append_drop i l, sumU_append]
  omega
end Go.PK

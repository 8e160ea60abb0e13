/- The lifting, fifth part: cuts of strings and slices, structs written out, conversions, operators, lengths. -/
import Derived.Test.YtedlleekcinbcaaLiftD
namespace Go.Lift
set_option linter.unusedVariables false
set_option linter.unusedSimpArgs false
set_option linter.unusedSectionVars false
variable [GTab]

section
variable {P : Program} {vars : List Nat} {m : List Nat} {c : Cl} {w : World} {g : Env} {h : Heap} {a : Act}

/-- the bound of a cut, as the machine reads it -/
theorem bnd_spec (hC : Core vars m c w g h a) {o : Option Operand} {d k : Nat} (hk : bnd g o d = some k) :
    (o = none ∧ k = d) ∨ ∃ x kk, o = some x ∧ a.eval x = .int kk k := by
  unfold bnd at hk
  split at hk
  · cases hk; exact .inl ⟨rfl, rfl⟩
  · rename_i x
    split at hk
    · rename_i n hn
      split at hk
      · rename_i h0
        cases hk
        obtain ⟨kk, hkk⟩ := idx_spec hn
        have hx := hC.opd x
        rw [hkk] at hx
        have hx' : a.eval x = .int kk n := hx
        exact .inr ⟨x, kk, rfl, by rw [hx', Int.toNat_of_nonneg h0]⟩
      · cases hk
    · cases hk

theorem run_sliceBound (kk : IntKind) (n y : Nat) (code : BoundsCode) (hn : n ≤ y) : (Instr.sliceBound (.int kk n) y code).run P w = .ok n w := by
  have hb : 0 ≤ (n : Int) ∧ (n : Int) ≤ y := ⟨by omega, by omega⟩
  simp [Instr.sliceBound, asIntOf, hn]

theorem run_sliceBounds (hC : Core vars m c w g h a) {lo hi : Option Operand} {len cap l k : Nat} (b : Bool) (hk : bnd g hi len = some k) (hl : bnd g lo 0 = some l)
    (h1 : l ≤ k) (h2 : k ≤ cap) : (Instr.sliceBounds b len cap (lo.map a.eval) (hi.map a.eval) none).run P w = .ok (l, k, cap) w := by
  unfold Instr.sliceBounds
  rcases bnd_spec hC hk with ⟨rfl, rfl⟩ | ⟨x, kk, rfl, hx⟩
  · rcases bnd_spec hC hl with ⟨rfl, rfl⟩ | ⟨y, kl, rfl, hy⟩
    · rfl
    · simp [hy, run_sliceBound kl l k _ h1]
  · rcases bnd_spec hC hl with ⟨rfl, rfl⟩ | ⟨y, kl, rfl, hy⟩
    · simp [hx, run_sliceBound kk k cap _ h2]
    · simp [hx, hy, run_sliceBound kl l k _ h1, run_sliceBound kk k cap _ h2]

theorem pure_slice (hC : Core vars m c w g h a) {o : Oper} {t : TypeId} {x : Operand} {lo hi mx : Option Operand} (ho : o.op = .slice t x lo hi mx) {v : V} (hv : evPure P vars (g, h) (.slice t x lo hi mx) = some v) :
    Fine P vars m c w g h a o v := by
  have hx := hC.opd x
  simp only [evPure] at hv
  split at hv
  · rename_i b he hu
    rw [he] at hx
    have hx' : a.eval x = .string b := hx
    split at hv
    · rename_i k hk
      split at hv
      · rename_i l hl
        split at hv
        · rename_i hb
          cases hv
          refine ⟨_, yields_of (by simp [execOp, ho, hx']; rfl) ?_, rfl, TagOK.bare rfl⟩
          have hs := run_sliceBounds (P := P) hC (cap := b.size) false hk hl hb.1 hb.2
          simp [Instr.sliceAt, Instr.slice, run_underlying hu, hs]
        · cases hv
      · cases hv
    · cases hv
  · rename_i kf rows e he hu
    rw [he] at hx
    split at hv
    · rename_i k hk
      split at hv
      · rename_i l hl
        split at hv
        · rename_i hb
          cases hv
          obtain ⟨hlk, hkn, hsz, hall⟩ := hb
          have hp : VP c w (.list kf rows) (a.eval x) := hx
          cases hq : a.eval x with
          | slice ao n cap =>
            rw [hq] at hp
            obtain ⟨ie, hie⟩ : ∃ ie, P.info? e = some ie := by
              cases hie : P.info? e with
              | some ie => exact ⟨ie, rfl⟩
              | none => simp [tsize, Program.cellsOf, hie] at hsz
            have hn : n = rows.length := by cases hp <;> rfl
            subst hn
            have hcap : k ≤ cap := by cases hp with
              | empty => simp at hkn; omega
              | list => omega
            have hs := run_sliceBounds (P := P) hC (cap := cap) (len := rows.length) true hk hl hlk hcap
            refine ⟨.slice (if cap = l then ao else ao.map (·.add (l * tsize P e))) (k - l) (cap - l), yields_of (by simp [execOp, ho, hq]; rfl) ?_, ?_, TagOK.bare rfl⟩
            · simp [Instr.sliceAt, Instr.slice, run_underlying hu, hs, sizeOf, typeInfo, hie, size_of_info hie]
            · show VP c w (.list .no ((rows.take k).drop l)) _
              by_cases hempty : (rows.take k).drop l = []
              · rw [hempty]
                have : k - l = 0 := by
                  have := congrArg List.length hempty
                  simp at this
                  omega
                rw [this]
                exact .empty _ _ _
              · cases hp with
                | empty => simp at hempty
                | list kf rows ad cap sz xs hne hsz' hspot hcp hcl hrow hcell hrec =>
                  have hlen : ((rows.take k).drop l).length = k - l := by simp; omega
                  have hlt : l < k := by
                    have : 0 < ((rows.take k).drop l).length := List.length_pos_iff.2 hempty
                    omega
                  have hszeq : tsize P e = sz := by
                    obtain ⟨r0, hr0⟩ := List.exists_mem_of_ne_nil _ hne
                    obtain ⟨i0, hi0, hi1⟩ := List.getElem_of_mem hr0
                    have h1 := List.all_eq_true.1 hall r0 hr0
                    have h2 := hrow i0 r0 (by rw [List.getElem?_eq_getElem hi0, hi1])
                    simp at h1
                    omega
                  rw [hszeq]
                  have hne' : ¬ cap = l := by omega
                  rw [if_neg hne', ← hlen]
                  simp only [Option.map_some, add_eta hspot]
                  have hget : ∀ (i : Nat) row, ((rows.take k).drop l)[i]? = some row → rows[l + i]? = some row := fun i row hi => by
                    rw [List.getElem?_drop, List.getElem?_take] at hi
                    split at hi
                    · exact hi
                    · cases hi
                  refine VP.list .no _ _ _ sz (fun i j => xs (l + i) j) hempty hsz' rfl (by omega) ?_ (fun i row hi => hrow _ row (hget i row hi)) ?_ (fun i j row v hi hj => hrec _ j row v (hget i row hi) hj)
                  · show ad.off + l * sz + ((rows.take k).drop l).length * sz ≤ c ad.block
                    rw [hlen]
                    have : (l + (k - l)) * sz ≤ rows.length * sz := Nat.mul_le_mul_right _ (by omega)
                    rw [Nat.add_mul] at this
                    omega
                  · intro i j row v hi hj
                    have := hcell _ j row v (hget i row hi) hj
                    rw [Nat.add_mul] at this
                    show w.cell? ⟨ad.block, ad.off + l * sz + i * sz + j, none⟩ = _
                    rw [← this]
                    congr 2
                    omega
          | _ => rw [hq] at hp; cases hp
        · cases hv
      · cases hv
    · cases hv
  · rename_i b off n e he hu
    rw [he] at hx
    obtain ⟨gb, hg, hy⟩ := hx
    split at hv
    · rename_i k hk
      split at hv
      · rename_i l hl
        split at hv
        · rename_i hb
          cases hv
          obtain ⟨ie, hie⟩ : ∃ ie, P.info? e = some ie := by
            cases hie : P.info? e with
            | some ie => exact ⟨ie, rfl⟩
            | none => have := hb.2.2.2; simp [tsize, Program.cellsOf, hie] at this
          have hs1 : ie.size = 1 := by rw [← size_of_info hie]; exact hb.2.2.2
          have hs := run_sliceBounds (P := P) hC (cap := n) (len := n) false hk hl hb.1 hb.2.1
          have hnl : ¬ n = l := by have := hb.2.2.1; omega
          refine ⟨.slice (some ((⟨gb, off, none⟩ : Addr).add l)) (k - l) (n - l), yields_of (by simp [execOp, ho, hy]; rfl) ?_, ⟨gb, n - l, hg, by rw [add_none], by omega⟩, TagOK.bare rfl⟩
          simp [Instr.sliceAt, run_underlying hu, Instr.sureAddr, hs, sizeOf, typeInfo, hie, hs1, hnl]
        · cases hv
      · cases hv
    · cases hv
  · cases hv

theorem VRr.leaf {v : V} {x : Value} (hx : VRr m c w v x) (hl : leaf0 v = true) : VR0 m c w v x := by
  cases v <;> first | exact hx | (simp [leaf0] at hl)

theorem pure_makeFunc (hC : Core vars m c w g h a) {o : Oper} {fn : Fn} {first caps : Array Operand} (ho : o.op = .makeFunc fn first caps) {v : V} (hv : evPure P vars (g, h) (.makeFunc fn first caps) = some v) :
    Fine P vars m c w g h a o v := by
  simp only [evPure] at hv
  split at hv
  · rename_i f
    split at hv
    · rename_i hb
      cases hv
      have hf : first = #[] := Array.eq_empty_of_size_eq_zero hb.1
      subst hf
      refine ⟨.func (.func f) #[] (caps.map a.eval), yields_of (by simp [execOp, ho]; rfl) (by simp [Instr.makeFunc]), ⟨_, rfl, ?_⟩, TagOK.bare rfl⟩
      refine ⟨by simp, fun i u y hu hy => ?_⟩
      simp only [List.getElem?_map, Option.map_eq_some_iff] at hu
      obtain ⟨z, hz, rfl⟩ := hu
      simp only [Array.toList_map, List.getElem?_map, Option.map_eq_some_iff] at hy
      obtain ⟨z', hz', rfl⟩ := hy
      rw [hz] at hz'
      cases hz'
      have hl := List.all_eq_true.1 hb.2 z (List.mem_of_getElem? hz)
      exact (VRr.leaf (hC.opd z) hl).cp
    · cases hv
  · cases hv

theorem pure_len (hC : Core vars m c w g h a) {o : Oper} {k : Call} (ho : o.op = .call k) {v : V} (hv : evPure P vars (g, h) (.call k) = some v) :
    Fine P vars m c w g h a o v := by
  simp only [evPure] at hv
  split at hv
  · rename_i hc
    have hrun : ∀ (t : TypeId) (x : Operand) (y : Value), k.args[0]? = some x → k.argTypes[0]? = some t → (Builtin.len_ k.argTypes o.type (k.args.map a.eval)).run P w = .ok y w → Yields P w a o y := fun t x y hx ht hr => by
      refine yields_of (s := Builtin.len_ k.argTypes o.type (k.args.map a.eval)) ?_ hr
      simp [execOp, ho, resolve, hc, invoke, builtin]
    split at hv
    · rename_i kf rows e h1 h2
      cases hv
      simp only [Option.map_eq_some_iff] at h1
      obtain ⟨x, hx, he⟩ := h1
      simp only [Option.bind_eq_some_iff] at h2
      obtain ⟨t, ht, hu⟩ := h2
      have hp := hC.opd x
      rw [he] at hp
      have hp' : VP c w (.list kf rows) (a.eval x) := hp
      obtain ⟨ao, cap, hq⟩ : ∃ ao cap, a.eval x = .slice ao rows.length cap := by
        generalize a.eval x = y at hp'
        cases hp' with
        | empty k ao cap => exact ⟨ao, cap, rfl⟩
        | list => exact ⟨_, _, rfl⟩
      refine ⟨_, hrun t x _ hx ht ?_, rfl, TagOK.bare rfl⟩
      simp [Builtin.len_, ht, hx, hq, run_underlying hu, goInt]
    · rename_i e h1 h2
      cases hv
      simp only [Option.map_eq_some_iff] at h1
      obtain ⟨x, hx, he⟩ := h1
      simp only [Option.bind_eq_some_iff] at h2
      obtain ⟨t, ht, hu⟩ := h2
      have hp := hC.opd x
      rw [he] at hp
      have hq : a.eval x = .slice none 0 0 := hp
      refine ⟨_, hrun t x _ hx ht ?_, rfl, TagOK.bare rfl⟩
      simp [Builtin.len_, ht, hx, hq, run_underlying hu, goInt]
    · rename_i b off n e h1 h2
      cases hv
      simp only [Option.map_eq_some_iff] at h1
      obtain ⟨x, hx, he⟩ := h1
      simp only [Option.bind_eq_some_iff] at h2
      obtain ⟨t, ht, hu⟩ := h2
      have hp := hC.opd x
      rw [he] at hp
      obtain ⟨gb, cap, hg, hq, hcap⟩ := hp
      refine ⟨_, hrun t x _ hx ht ?_, rfl, TagOK.bare rfl⟩
      simp [Builtin.len_, ht, hx, hq, run_underlying hu, goInt]
    · rename_i b h1 h2
      cases hv
      simp only [Option.map_eq_some_iff] at h1
      obtain ⟨x, hx, he⟩ := h1
      simp only [Option.bind_eq_some_iff] at h2
      obtain ⟨t, ht, hu⟩ := h2
      have hp := hC.opd x
      rw [he] at hp
      have hq : a.eval x = .string b := hp
      refine ⟨_, hrun t x _ hx ht ?_, rfl, TagOK.bare rfl⟩
      simp [Builtin.len_, ht, hx, hq, run_underlying hu, goInt]
    · cases hv
  · rename_i hc
    split at hv
    · rename_i k1 x k2 y he
      split at hv
      · rename_i hk
        cases hv
        subst hk
        have h2 : k.args.toList.map a.eval = [.int k1 x, .int k1 y] := by
          rcases hl : k.args.toList with _ | ⟨p, _ | ⟨q, _ | ⟨p', r⟩⟩⟩
          · rw [hl] at he; simp at he
          · rw [hl] at he; simp at he
          · rw [hl] at he
            simp only [List.map_cons, List.map_nil, List.cons.injEq, and_true] at he
            have h1 := hC.opd p
            have h2 := hC.opd q
            rw [he.1] at h1
            rw [he.2] at h2
            have h1' : a.eval p = _ := h1
            have h2' : a.eval q = _ := h2
            simp [h1', h2']
          · rw [hl] at he; simp at he
        refine ⟨_, yields_of (s := Builtin.min_ k.argTypes o.type (k.args.map a.eval)) (by simp [execOp, ho, resolve, hc, invoke, builtin]) ?_, rfl, TagOK.bare rfl⟩
        simp [Builtin.min_, h2, Builtin.min2]
      · cases hv
    · cases hv
  · rename_i hc
    split at hv
    · rename_i k1 x k2 y he
      split at hv
      · rename_i hk
        cases hv
        subst hk
        have h2 : k.args.toList.map a.eval = [.int k1 x, .int k1 y] := by
          rcases hl : k.args.toList with _ | ⟨p, _ | ⟨q, _ | ⟨p', r⟩⟩⟩
          · rw [hl] at he; simp at he
          · rw [hl] at he; simp at he
          · rw [hl] at he
            simp only [List.map_cons, List.map_nil, List.cons.injEq, and_true] at he
            have h1 := hC.opd p
            have h2 := hC.opd q
            rw [he.1] at h1
            rw [he.2] at h2
            have h1' : a.eval p = _ := h1
            have h2' : a.eval q = _ := h2
            simp [h1', h2']
          · rw [hl] at he; simp at he
        refine ⟨_, yields_of (s := Builtin.max_ k.argTypes o.type (k.args.map a.eval)) (by simp [execOp, ho, resolve, hc, invoke, builtin]) ?_, rfl, TagOK.bare rfl⟩
        simp [Builtin.max_, h2, Builtin.max2]
      · cases hv
    · cases hv
  · cases hv

theorem cells_rel {v : V} {y : Value} (hv : VRr m c w v y) (hp : partOk v = true) : R2 (VR1 m c w) (cellsV v) y.cells.toList := by
  cases v with
  | v z =>
    have : y = z := hv
    subst this
    have : y.cells = #[y] := by cases y <;> first | rfl | (simp [partOk, Value.oneCell'] at hp)
    rw [this]
    exact R2.cons rfl R2.nil
  | nil => have : y = .slice none 0 0 := hv; subst this; exact R2.cons rfl R2.nil
  | list k r => have h2 : VP c w (.list k r) y := hv; cases h2 <;> exact R2.cons hv R2.nil
  | ptr b o => obtain ⟨g, hg, rfl⟩ := hv; exact R2.cons ⟨g, hg, rfl⟩ R2.nil
  | rp cs => obtain ⟨ad, rfl, hs, hr⟩ := hv; exact R2.cons ⟨ad, rfl, hs, hr⟩ R2.nil
  | buf b o n => obtain ⟨g, cap, hg, rfl, hc⟩ := hv; exact R2.cons ⟨g, cap, hg, rfl, hc⟩ R2.nil
  | agg cs => obtain ⟨xs, rfl, hr⟩ := hv; exact hr
  | tup vs => simp [partOk] at hp
  | fn f cs => obtain ⟨xs, rfl, hr⟩ := hv; exact R2.cons ⟨xs, rfl, hr⟩ R2.nil
  | undef => simp [partOk] at hp

theorem fold_splice (off : Nat) : ∀ (vs : List Value) (k : Nat) (zs : Array Value), off + k + vs.length ≤ zs.size →
    ((vs.zipIdx k).foldl (fun cs p => cs.setIfInBounds (off + p.2) p.1) zs).toList = zs.toList.take (off + k) ++ vs ++ zs.toList.drop (off + k + vs.length)
  | [], k, zs, _ => by simp
  | v :: vs, k, zs, hb => by
    simp only [List.length_cons] at hb
    have ih := fold_splice off vs (k + 1) (zs.setIfInBounds (off + k) v) (by simp; omega)
    simp only [List.zipIdx_cons, List.foldl_cons]
    rw [ih]
    have hlt : off + k < zs.toList.length := by simp; omega
    simp only [Array.toList_setIfInBounds, List.length_cons]
    rw [show off + (k + 1) = off + k + 1 by omega, List.take_succ_eq_append_getElem (by simpa using hlt), List.getElem_set_self, List.take_set_of_le (by omega), List.drop_set_of_lt (by omega)]
    simp only [List.append_assoc, List.cons_append, List.nil_append]
    rw [show off + k + 1 + vs.length = off + k + (vs.length + 1) by omega]

/-- a struct or an array written out -/
theorem buildV_spec {place : Nat → Option (Nat × Nat)} : ∀ (parts : List (Nat × V)) (qs : List (Nat × Value)) (cs : List V) (zs : Array Value) (ds : List V),
    R2 (fun p q => p.1 = q.1 ∧ VRr m c w p.2 q.2) parts qs → R2 (VR1 m c w) cs zs.toList → buildV place parts cs = some ds →
    ∃ ys : Array Value, Instr.fill place zs qs = some ys ∧ R2 (VR1 m c w) ds ys.toList
  | [], qs, cs, zs, ds, hp, hc, hd => by
    have : qs = [] := List.eq_nil_of_length_eq_zero hp.1.symm
    subst this
    cases hd
    exact ⟨zs, rfl, hc⟩
  | (i, x) :: r, qs, cs, zs, ds, hp, hc, hd => by
    match qs, hp with
    | [], hp => simp [R2] at hp
    | (j, y) :: s, hp =>
      have h0 := hp.head
      simp only at h0
      obtain ⟨rfl, hxy⟩ := h0
      unfold buildV at hd
      split at hd
      · rename_i off n hpl
        split at hd
        · rename_i hb
          have hcells : R2 (VR1 m c w) (cellsV x) y.cells.toList := cells_rel hxy hb.1
          have hlen : y.cells.size = n := by have := hcells.1; have := hb.2.1; simp at *; omega
          have hzs : zs.size = cs.length := by have := hc.1; simp at this; omega
          have hfold : ∃ ys : Array Value, y.cells.zipIdx.foldl (fun cs (c, j) => cs.setIfInBounds (off + j) c) zs = ys ∧ R2 (VR1 m c w) (cs.take off ++ (cellsV x).map cp ++ cs.drop (off + n)) ys.toList := by
            refine ⟨_, rfl, ?_⟩
            have hf := fold_splice off y.cells.toList 0 zs (by have := hb.2.2; simp [hlen, hzs]; omega)
            have he : (y.cells.zipIdx.foldl (fun cs (c, j) => cs.setIfInBounds (off + j) c) zs).toList = zs.toList.take off ++ y.cells.toList ++ zs.toList.drop (off + n) := by
              simp only [Nat.add_zero, Array.length_toList, hlen] at hf
              rw [← hf, ← Array.foldl_toList, Array.toList_zipIdx]
            rw [he]
            exact ((hc.take off).append (by simpa using hcells.map (f := cp) (g := id) fun _ _ => VR1.cp)).append (hc.drop _)
          obtain ⟨ys, hys, hr⟩ := hfold
          obtain ⟨us, hus, hr'⟩ := buildV_spec r s _ ys ds hp.tail hr hd
          refine ⟨us, ?_, hr'⟩
          unfold Instr.fill
          simp only [hpl]
          rw [if_neg (by have := hb.2.2; simp [hlen, hzs]; omega), hys]
          exact hus
        · cases hd
      · cases hd

theorem ofC1_cells (z : Value) : R2 (VR1 m c w) (z.cells.toList.map ofC1) z.cells.toList :=
  ⟨by simp, fun i u y hu hy => by
    simp only [List.getElem?_map, Option.map_eq_some_iff] at hu
    obtain ⟨q, hq, rfl⟩ := hu
    rw [hq] at hy
    cases hy
    exact VR1_ofC1 _⟩

theorem tzero_spec {t : TypeId} {z : List Value} (hz : tzero P t = some z) : ∃ zv, (zeroValue t).run P w = .ok zv w ∧ z = zv.cells.toList := by
  unfold tzero at hz
  cases hi : P.info? t with
  | none => simp [hi] at hz
  | some i =>
    cases hz0 : i.zero with
    | none => simp [hi, hz0] at hz
    | some zv =>
      simp only [hi, Option.bind_some, hz0, Option.map_some, Option.some.injEq] at hz
      exact ⟨zv, by simp [zeroValue, typeInfo, hi, hz0], hz.symm⟩

theorem run_places : ∀ (l : List Field), (∀ f ∈ l, ∃ i, P.info? f.type = some i) →
    (l.toArray.mapM (m := Sem) fun f => do pure (f.offset, ← sizeOf f.type)).run P w = .ok (l.map fun f => (f.offset, tsize P f.type)).toArray w := by
  intro l hl
  rw [List.mapM_toArray, Sem.run_map]
  have : ∀ (l : List Field), (∀ f ∈ l, ∃ i, P.info? f.type = some i) → (l.mapM (m := Sem) fun f => do pure (f.offset, ← sizeOf f.type)).run P w = .ok (l.map fun f => (f.offset, tsize P f.type)) w := by
    intro l
    induction l with
    | nil => intro _; rfl
    | cons f l ih =>
      intro hl
      obtain ⟨i, hi⟩ := hl f (by simp)
      rw [List.mapM_cons]
      simp only [Sem.run_bind, run_sizeOf hi, Result.andThen_ok, Sem.run_pure, ih (fun f hf => hl f (by simp [hf])), List.map_cons, size_of_info hi]
  rw [this l hl]
  rfl

theorem pure_build (hC : Core vars m c w g h a) {o : Oper} {t : TypeId} {parts : Array (Nat × Operand)} (ho : o.op = .build t parts) {v : V} (hv : evPure P vars (g, h) (.build t parts) = some v) :
    Fine P vars m c w g h a o v := by
  simp only [evPure] at hv
  split at hv
  · cases hv
  · rename_i z hz
    obtain ⟨zv, hzv, rfl⟩ := tzero_spec (w := w) hz
    have hparts : R2 (fun (p : Nat × V) (q : Nat × Value) => p.1 = q.1 ∧ VRr m c w p.2 q.2) (parts.toList.map fun p => (p.1, opd g p.2)) (parts.map fun (i, x) => (i, a.eval x)).toList := by
      refine ⟨by simp, fun i u y hu hy => ?_⟩
      simp only [Array.toList_map, List.getElem?_map, Option.map_eq_some_iff] at hu hy
      obtain ⟨p, hp, rfl⟩ := hu
      obtain ⟨q, hq, rfl⟩ := hy
      rw [hp] at hq
      cases hq
      exact ⟨rfl, hC.opd _⟩
    split at hv
    · rename_i fs hu
      split at hv
      · rename_i hok
        simp only [Option.map_eq_some_iff] at hv
        obtain ⟨ds, hds, rfl⟩ := hv
        have hall : ∀ f ∈ fs.toList, ∃ i, P.info? f.type = some i := by
          intro f hf
          unfold structOk tfields at hok
          simp only [hu, List.all_map, List.all_eq_true] at hok
          exact Option.isSome_iff_exists.1 (hok f hf)
        have hm := run_places fs.toList hall (w := w)
        rw [Array.toArray_toList] at hm
        have hplace : (fun i => (fieldOff P t i).map fun p => (p.1, tsize P p.2)) = fun i => (fs.toList.map fun f => (f.offset, tsize P f.type)).toArray[i]? := by
          funext i
          unfold fieldOff tfields
          simp only [hu]
          simp only [List.getElem?_map, Option.map_map, List.getElem?_toArray]
          rfl
        rw [hplace] at hds
        obtain ⟨ys, hys, hr⟩ := buildV_spec _ _ _ zv.cells ds hparts (ofC1_cells zv) hds
        refine ⟨.agg ys, yields_of (by simp [execOp, ho]; rfl) ?_, ⟨ys, rfl, hr⟩, TagOK.bare rfl⟩
        unfold Instr.build
        simp only [Sem.run_bind, hzv, Result.andThen_ok, run_underlying hu, hm, hys]
        rfl
      · cases hv
    · rename_i n e hu
      split at hv
      · rename_i hok
        simp only [Option.map_eq_some_iff] at hv
        obtain ⟨ds, hds, rfl⟩ := hv
        obtain ⟨ie, hie⟩ := Option.isSome_iff_exists.1 hok
        obtain ⟨ys, hys, hr⟩ := buildV_spec _ _ _ zv.cells ds hparts (ofC1_cells zv) hds
        rw [size_of_info hie] at hys
        refine ⟨.agg ys, yields_of (by simp [execOp, ho]; rfl) ?_, ⟨ys, rfl, hr⟩, TagOK.bare rfl⟩
        unfold Instr.build
        simp only [Sem.run_bind, hzv, Result.andThen_ok, run_underlying hu, run_sizeOf hie, hys]
        rfl
      · cases hv
    · cases hv

theorem VP.v_eq {y x : Value} (hp : VP c w (.v y) x) : x = y := by cases hp; rfl

theorem bytesOf_spec : ∀ {rows : List (List V)} {l : List UInt8}, bytesOf rows = some l →
    ∃ ns : List Int, rows = ns.map (fun n => [.v (.int .u8 n)]) ∧ l = ns.map fun n => UInt8.ofNat n.toNat
  | [], l, hb => by cases hb; exact ⟨[], rfl, rfl⟩
  | r :: rows, l, hb => by
    unfold bytesOf at hb
    split at hb
    · rename_i h1; cases h1
    · rename_i n rest h1
      cases h1
      simp only [Option.map_eq_some_iff] at hb
      obtain ⟨l', hl', rfl⟩ := hb
      obtain ⟨ns, rfl, rfl⟩ := bytesOf_spec hl'
      exact ⟨n :: ns, rfl, rfl⟩
    · cases hb

theorem push_fold : ∀ (ns : List Int) (b : ByteArray), ns.foldl (fun r n => r.push (UInt8.ofNat n.toNat)) b = ⟨b.data ++ (ns.map fun n => UInt8.ofNat n.toNat).toArray⟩
  | [], b => by simp
  | n :: ns, b => by
    rw [List.foldl_cons, push_fold ns]
    congr 1
    simp [ByteArray.push]

theorem run_conv_bytes {s d e : TypeId} (hs : P.underlying s = some (.slice e)) (hd : P.underlying d = some .string) (he : P.underlying e = some (.int .u8)) (y : Value) (ao : Option Addr) (n cap : Nat) (hy : y = .slice ao n cap) :
    (convert s d y).run P w = (Conv.bytesToString y).run P w := by
  subst hy
  simp [convert, run_underlying hs, run_underlying hd, run_underlying he]

theorem is_string {b : TypeId} (h1 : isStr P b = true) : P.underlying b = some .string := by
  unfold isStr at h1
  split at h1
  · assumption
  · cases h1
theorem is_u8 {b : TypeId} (h1 : isU8 P b = true) : P.underlying b = some (.int .u8) := by
  unfold isU8 at h1
  split at h1
  · assumption
  · cases h1

theorem is_i32 {b : TypeId} (h1 : isI32 P b = true) : P.underlying b = some (.int .i32) := by
  unfold isI32 at h1
  split at h1
  · assumption
  · cases h1
theorem runesOf_spec : ∀ {rows : List (List V)} {l : List Int}, runesOf rows = some l → rows = l.map (fun n => [.v (.int .i32 n)])
  | [], l, hb => by cases hb; rfl
  | r :: rows, l, hb => by
    unfold runesOf at hb
    split at hb
    · rename_i h1; cases h1
    · rename_i n rest h1
      cases h1
      simp only [Option.map_eq_some_iff] at hb
      obtain ⟨l', hl', rfl⟩ := hb
      rw [runesOf_spec hl']
      rfl
    · cases hb
theorem run_conv_runes {s d e : TypeId} (hs : P.underlying s = some (.slice e)) (hd : P.underlying d = some .string) (he : P.underlying e = some (.int .i32)) (y : Value) (ao : Option Addr) (n cap : Nat) (hy : y = .slice ao n cap) :
    (convert s d y).run P w = (Conv.runesToString y).run P w := by
  subst hy
  exact run_convert_runes_string w s d e ao n cap hs he hd

theorem pure_convert (hC : Core vars m c w g h a) {o : Oper} {s d : TypeId} {x : Operand} (ho : o.op = .convert s d x) {v : V} (hv : evPure P vars (g, h) (.convert s d x) = some v) :
    Fine P vars m c w g h a o v := by
  have hx := hC.opd x
  simp only [evPure] at hv
  split at hv
  · rename_i y he
    rw [he] at hx
    have hx' : a.eval x = y := hx
    unfold convS at hv
    split at hv
    · rename_i k' k n h1 h2 h3
      cases h3; cases hv
      exact ⟨_, yields_of (by simp [execOp, ho, hx']; rfl) (by simp [convert, run_underlying h1, run_underlying h2, Conv.intToInt]), rfl, TagOK.bare rfl⟩
    · rename_i k' k n h1 h2 h3
      cases h3; cases hv
      exact ⟨_, yields_of (by simp [execOp, ho, hx']; rfl) (by simp [convert, run_underlying h1, run_underlying h2, Conv.intToString]), rfl, TagOK.bare rfl⟩
    · rename_i b h1 h2 h3
      cases h3; cases hv
      exact ⟨_, yields_of (by simp [execOp, ho, hx']; rfl) (by simp [convert, run_underlying h1, run_underlying h2]), rfl, TagOK.bare rfl⟩
    · cases hv
  · rename_i kf rows he
    rw [he] at hx
    have hp : VP c w (.list kf rows) (a.eval x) := hx
    split at hv
    · rename_i hd
      have hd := is_string hd
      split at hv
      · rename_i e hs
        split at hv
        · rename_i hu
          have hu := is_u8 hu
          simp only [Option.map_eq_some_iff] at hv
          obtain ⟨l, hl, rfl⟩ := hv
          obtain ⟨ns, rfl, rfl⟩ := bytesOf_spec hl
          refine ⟨.string ⟨(ns.map fun n : Int => UInt8.ofNat n.toNat).toArray⟩, yields_of (s := convert s d (a.eval x)) (by simp [execOp, ho]) ?_, rfl, TagOK.bare rfl⟩
          generalize a.eval x = y at hp
          by_cases hns : ns = []
          · subst hns
            cases hp with
            | empty k ao cap =>
              rw [run_conv_bytes hs hd hu _ ao 0 cap rfl]
              cases ao with
              | none => rfl
              | some ad => rfl
            | list k rows ad cap sz xs hne => exact absurd rfl hne
          · generalize hrw : ns.map (fun n => [V.v (.int .u8 n)]) = rows at hp
            cases hp with
            | empty => simp at hrw; exact absurd hrw hns
            | list k rows ad cap sz xs hne hsz hspot hcap hcl hrow hcell hrec =>
              subst hrw
              have hlen : (ns.map (fun n => [V.v (.int .u8 n)])).length = ns.length := by simp
              rw [run_conv_bytes hs hd hu _ (some ad) _ cap rfl, hlen]
              have hld : (loadCells ad ns.length).run P w = .ok (ns.map (Value.int .u8)).toArray w := by
                have := run_loadCells_list (P := P) w ad (ns.map (Value.int .u8)) (fun j v hj => by
                  simp only [List.getElem?_map, Option.map_eq_some_iff] at hj
                  obtain ⟨n, hn, rfl⟩ := hj
                  have h1 : (ns.map (fun n => [V.v (.int .u8 n)]))[j]? = some [V.v (.int .u8 n)] := by simp [hn]
                  have hs1 := hrow j _ h1
                  simp only [List.length_cons, List.length_nil, Nat.zero_add] at hs1
                  have h2 := hcell j 0 _ _ h1 rfl
                  have h3 := hrec j 0 _ _ h1 rfl
                  rw [← hs1, Nat.mul_one, Nat.add_zero] at h2
                  rw [add_eta hspot, h2]
                  have h4 : xs j 0 = .int .u8 n := VP.v_eq h3
                  rw [h4])
                simpa using this
              rw [run_bytesToString w ad _ _ ns hld, push_fold]
              simp
        · split at hv
          · rename_i hu
            have hu := is_i32 hu
            simp only [Option.map_eq_some_iff] at hv
            obtain ⟨ns, hl, rfl⟩ := hv
            obtain rfl := runesOf_spec hl
            refine ⟨.string (runesBytes ns), yields_of (s := convert s d (a.eval x)) (by simp [execOp, ho]) ?_, rfl, TagOK.bare rfl⟩
            generalize a.eval x = y at hp
            by_cases hns : ns = []
            · subst hns
              cases hp with
              | empty k ao cap =>
                rw [run_conv_runes hs hd hu _ ao 0 cap rfl]
                cases ao with
                | none => rfl
                | some ad => rfl
              | list k rows ad cap sz xs hne => exact absurd rfl hne
            · generalize hrw : ns.map (fun n => [V.v (.int .i32 n)]) = rows at hp
              cases hp with
              | empty => simp at hrw; exact absurd hrw hns
              | list k rows ad cap sz xs hne hsz hspot hcap hcl hrow hcell hrec =>
                subst hrw
                have hlen : (ns.map (fun n => [V.v (.int .i32 n)])).length = ns.length := by simp
                rw [run_conv_runes hs hd hu _ (some ad) _ cap rfl, hlen]
                have hld : (loadCells ad ns.length).run P w = .ok (ns.map (Value.int .i32)).toArray w := by
                  have := run_loadCells_list (P := P) w ad (ns.map (Value.int .i32)) (fun j v hj => by
                    simp only [List.getElem?_map, Option.map_eq_some_iff] at hj
                    obtain ⟨n, hn, rfl⟩ := hj
                    have h1 : (ns.map (fun n => [V.v (.int .i32 n)]))[j]? = some [V.v (.int .i32 n)] := by simp [hn]
                    have hs1 := hrow j _ h1
                    simp only [List.length_cons, List.length_nil, Nat.zero_add] at hs1
                    have h2 := hcell j 0 _ _ h1 rfl
                    have h3 := hrec j 0 _ _ h1 rfl
                    rw [← hs1, Nat.mul_one, Nat.add_zero] at h2
                    rw [add_eta hspot, h2]
                    have h4 : xs j 0 = .int .i32 n := VP.v_eq h3
                    rw [h4])
                  simpa using this
                rw [run_runesToString w ad _ _ ns hld]
          · cases hv
      · cases hv
    · cases hv
  · rename_i i off n he
    rw [he] at hx
    obtain ⟨gb, cap, hg, hy, hcap⟩ := hx
    split at hv
    · rename_i hd
      have hd := is_string hd
      split at hv
      · rename_i e cs hs hcs
        split at hv
        · rename_i hu
          simp only [Bool.and_eq_true, decide_eq_true_eq] at hu
          have hle := hu.2
          have hu := is_u8 hu.1
          simp only [Option.map_eq_some_iff] at hv
          obtain ⟨l, hl, rfl⟩ := hv
          obtain ⟨ns, hns, rfl⟩ := bytesOf_spec hl
          refine ⟨.string ⟨(ns.map fun n : Int => UInt8.ofNat n.toNat).toArray⟩, yields_of (s := convert s d (a.eval x)) (by simp [execOp, ho]) ?_, rfl, TagOK.bare rfl⟩
          rw [run_conv_bytes hs hd hu _ _ n cap hy, hy]
          have hlen : n = ns.length := by
            have := congrArg List.length hns
            simp only [List.length_map, List.length_take, List.length_drop] at this
            omega
          have hld : (loadCells ⟨gb, off, none⟩ n).run P w = .ok (ns.map (Value.int .u8)).toArray w := by
            have := run_loadCells_list (P := P) w ⟨gb, off, none⟩ (ns.map (Value.int .u8)) (fun j v hj => by
              simp only [List.getElem?_map, Option.map_eq_some_iff] at hj
              obtain ⟨k, hk, rfl⟩ := hj
              have hjl : j < ns.length := (List.getElem?_eq_some_iff.1 hk).1
              have h1 : (((cs.drop off).take n).map fun x => [x])[j]? = some [V.v (.int .u8 k)] := by rw [hns]; simp [hk]
              simp only [List.getElem?_map, Option.map_eq_some_iff, List.cons.injEq, and_true] at h1
              obtain ⟨u, hu1, hu2⟩ := h1
              subst hu2
              rw [List.getElem?_take, if_pos (by omega), List.getElem?_drop] at hu1
              obtain ⟨y, hy1, hy2⟩ := (hC.obCells hcs hg).1 _ _ hu1
              rw [Nat.zero_add] at hy1
              rw [add_none, hy1]
              have : y = .int .u8 k := hy2
              rw [this])
            simpa [hlen] using this
          rw [run_bytesToString w _ _ _ ns hld, push_fold]
          simp
        · cases hv
      · cases hv
    · cases hv
  · cases hv

end
end Go.Lift

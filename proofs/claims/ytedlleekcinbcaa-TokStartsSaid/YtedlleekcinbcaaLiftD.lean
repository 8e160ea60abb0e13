/- The lifting, fourth part: more operations that leave the state alone. -/
import Derived.Test.YtedlleekcinbcaaLiftC
namespace Go.Lift
set_option linter.unusedVariables false
set_option linter.unusedSimpArgs false
set_option linter.unusedSectionVars false
variable [GTab]

section
variable {P : Program} {vars : List Nat} {m : List Nat} {c : Cl} {w : World} {g : Env} {h : Heap} {a : Act}

/-- what each lemma of this part says -/
abbrev Fine (P : Program) (vars : List Nat) (m : List Nat) (c : Cl) (w : World) (g : Env) (h : Heap) (a : Act) (o : Oper) (v : V) : Prop :=
  ∃ y, Yields P w a o y ∧ VRr m c w v y ∧ TagOK vars m w g h a v y

theorem pure_nilCheck (hC : Core vars m c w g h a) {o : Oper} {x : Operand} (ho : o.op = .nilCheck x) {v : V} (hv : evPure P vars (g, h) (.nilCheck x) = some v) :
    Fine P vars m c w g h a o v := by
  have hx := hC.opd x
  simp only [evPure] at hv
  split at hv
  · rename_i b k he
    cases hv
    rw [he] at hx
    obtain ⟨gb, hg, hy⟩ := hx
    exact ⟨_, by simp [Yields, execOp, ho, hy], ⟨gb, hg, rfl⟩, TagOK.bare rfl⟩
  · rename_i cs he
    cases hv
    rw [he] at hx
    obtain ⟨ad, hy, hs, hr⟩ := hx
    exact ⟨_, by simp [Yields, execOp, ho, hy], ⟨ad, rfl, hs, hr⟩, TagOK.bare rfl⟩
  · rename_i f cs he
    cases hv
    rw [he] at hx
    obtain ⟨xs, hy, hr⟩ := hx
    exact ⟨_, by simp [Yields, execOp, ho, hy], ⟨xs, rfl, hr⟩, TagOK.bare rfl⟩
  · cases hv

theorem pure_unOp (hC : Core vars m c w g h a) {o : Oper} {op : UnOp} {t : TypeId} {x : Operand} (ho : o.op = .unOp op t x) {v : V} (hv : evPure P vars (g, h) (.unOp op t x) = some v) :
    Fine P vars m c w g h a o v := by
  have hx := hC.opd x
  simp only [evPure] at hv
  split at hv
  · rename_i y he
    rw [he] at hx
    have hx' : a.eval x = y := hx
    unfold unS at hv
    split at hv
    · cases hv
      exact ⟨_, yields_of (by simp [execOp, ho, hx']; rfl) (by simp [Op.unary, Op.intArith]), rfl, TagOK.bare rfl⟩
    · cases hv
      exact ⟨_, yields_of (by simp [execOp, ho, hx']; rfl) (by simp [Op.unary]), rfl, TagOK.bare rfl⟩
    · cases hv
  · cases hv

theorem fieldOff_spec {t : TypeId} {f k : Nat} {u : TypeId} (hf : fieldOff P t f = some (k, u)) :
    ∃ fs fd, P.underlying t = some (.struct fs) ∧ fs[f]? = some fd ∧ fd.offset = k ∧ fd.type = u := by
  unfold fieldOff tfields at hf
  split at hf
  · rename_i fs hfs
    simp only [List.getElem?_map, Option.map_eq_some_iff] at hf
    obtain ⟨fd, h1, h2⟩ := hf
    cases h2
    exact ⟨fs, fd, hfs, by simpa using h1, rfl, rfl⟩
  · simp at hf

theorem run_fieldAt {t : TypeId} {fs : Array Field} {fd : Field} {f : Nat} (hu : P.underlying t = some (.struct fs)) (hf : fs[f]? = some fd) (hs : 0 < tsize P fd.type) (ad : Addr) :
    (Instr.fieldAt t (.pointer (some ad)) f).run P w = .ok (.pointer (some (ad.add fd.offset))) w := by
  have : ∃ i, P.info? fd.type = some i := by
    cases hi : P.info? fd.type with
    | some i => exact ⟨i, rfl⟩
    | none => simp [tsize, Program.cellsOf, hi] at hs
  obtain ⟨i, hi⟩ := this
  have hne : i.size ≠ 0 := by rw [← size_of_info hi]; omega
  simp [Instr.fieldAt, run_underlying hu, hf, Instr.sureAddr, fieldPlace, sizeOf, typeInfo, hi, hne]

theorem add_none (b o n : Nat) : (⟨b, o, none⟩ : Addr).add n = ⟨b, o + n, none⟩ := by unfold Addr.add; split <;> simp_all

theorem pure_fieldAddr (hC : Core vars m c w g h a) {o : Oper} {t : TypeId} {x : Operand} {f : Nat} (ho : o.op = .fieldAddr t x f) {v : V} (hv : evPure P vars (g, h) (.fieldAddr t x f) = some v) :
    Fine P vars m c w g h a o v := by
  have hx := hC.opd x
  simp only [evPure] at hv
  split at hv
  · rename_i b k off u he hf
    split at hv
    · rename_i hs
      cases hv
      obtain ⟨fs, fd, hu, hfd, rfl, rfl⟩ := fieldOff_spec hf
      rw [he] at hx
      obtain ⟨gb, hg, hy⟩ := hx
      exact ⟨_, yields_of (by simp [execOp, ho, hy]; rfl) (run_fieldAt hu hfd hs _), ⟨gb, hg, by rw [add_none]⟩, TagOK.bare rfl⟩
    · cases hv
  · rename_i cs off u he hf
    split at hv
    · rename_i hs
      cases hv
      obtain ⟨fs, fd, hu, hfd, rfl, rfl⟩ := fieldOff_spec hf
      rw [he] at hx
      obtain ⟨ad, hy, hsp, hr⟩ := hx
      refine ⟨_, yields_of (by simp [execOp, ho, hy]; rfl) (run_fieldAt hu hfd hs.1 _), ⟨_, rfl, ?_, ?_⟩, TagOK.bare rfl⟩
      · rw [addr_eta hsp, add_none]
      · rw [addr_eta hsp, add_none]
        refine ⟨?_, fun j v hj => ?_⟩
        · have := hr.1
          have h2 := hs.2
          simp only [List.length_drop]
          omega
        · rw [List.getElem?_drop] at hj
          obtain ⟨z, hz, hv⟩ := hr.2 _ v hj
          exact ⟨z, by simpa [Nat.add_assoc] using hz, hv⟩
    · cases hv
  · cases hv

theorem take_part {t : TypeId} {cs : List V} {xs : Array Value} (hr : R2 (VR1 m c w) cs xs.toList) {off : Nat} {v : V} (hv : takeCells P t (cs.drop off) = some v) :
    ∃ y, (part t xs off).run P w = .ok y w ∧ VR m c w v y ∧ bare v = true := by
  unfold takeCells at hv
  split at hv
  · rename_i ht
    obtain ⟨d, hd, hrow⟩ := ttag_true ht
    obtain ⟨i, hi⟩ := info_of_underlying hd
    split at hv
    · rename_i hle
      cases hv
      refine ⟨.agg (xs.extract off (off + tsize P t)), ?_, ⟨_, rfl, ?_⟩, rfl⟩
      · simp [part, run_isAgg_row hd, hrow, sizeOf, typeInfo, hi, size_of_info hi]
      · have h2 := R2_take_cp (hr.drop off) (tsize P t)
        simpa [Array.toList_extract, List.extract] using h2
    · cases hv
  · rename_i ht
    obtain ⟨d, hd, hrow⟩ := ttag_false ht
    cases hcs : (cs.drop off)[0]? with
    | none => simp [hcs] at hv
    | some u =>
      simp only [hcs, Option.map_some, Option.some.injEq] at hv
      subst hv
      rw [List.getElem?_drop, Nat.add_zero] at hcs
      obtain ⟨x, hx, hu⟩ := hr.get hcs
      refine ⟨x, ?_, hu.cp.r, bare_cp _⟩
      have hx' : xs[off]? = some x := by simpa using hx
      simp [part, run_isAgg_row hd, hrow, hx']
  · cases hv

theorem pure_field (hC : Core vars m c w g h a) {o : Oper} {t : TypeId} {x : Operand} {f : Nat} (ho : o.op = .field t x f) {v : V} (hv : evPure P vars (g, h) (.field t x f) = some v) :
    Fine P vars m c w g h a o v := by
  have hx := hC.opd x
  simp only [evPure] at hv
  split at hv
  · rename_i cs off u he hf
    obtain ⟨fs, fd, hu, hfd, rfl, rfl⟩ := fieldOff_spec hf
    rw [he] at hx
    obtain ⟨xs, hy, hr⟩ := hx
    obtain ⟨y, hp, hvy, hb⟩ := take_part hr hv
    exact ⟨y, yields_of (by simp [execOp, ho, hy]; rfl) (by simp [Instr.field, run_underlying hu, hfd, asAgg, hp]), hvy.r, TagOK.bare hb⟩
  · cases hv

theorem idx_spec {v : V} {n : Int} (hn : idx v = some n) : ∃ k, v = .v (.int k n) := by
  unfold idx at hn
  split at hn
  · cases hn; exact ⟨_, rfl⟩
  · cases hn

/-- a row of a slice lies protected -/
theorem VP.row {k : Own} {rows : List (List V)} {x : Value} (hp : VP c w (.list k rows) x) {n : Nat} {row : List V} (hn : rows[n]? = some row) :
    ∃ ad cap, x = .slice (some ad) rows.length cap ∧ ad.spot = none ∧ ROs c w ⟨ad.block, ad.off + n * row.length, none⟩ row := by
  cases hp with
  | empty => simp at hn
  | list k rows ad cap sz xs hne hsz hspot hcap hcl hrow hcell hrec =>
    have hl := hrow n row hn
    subst hl
    refine ⟨ad, cap, rfl, hspot, ?_, fun j v hj => ⟨xs n j, hcell n j row v hn hj, hrec n j row v hn hj⟩⟩
    have h2 : n < rows.length := (List.getElem?_eq_some_iff.1 hn).1
    have h3 : (n + 1) * row.length ≤ rows.length * row.length := Nat.mul_le_mul_right _ h2
    rw [Nat.add_mul] at h3
    show ad.off + n * row.length + row.length ≤ c ad.block
    omega

theorem add_eta {ad : Addr} (hs : ad.spot = none) (n : Nat) : ad.add n = ⟨ad.block, ad.off + n, none⟩ := by
  rw [addr_eta hs]; exact add_none _ _ _

theorem pure_indexAddr (hC : Core vars m c w g h a) {o : Oper} {t : TypeId} {x i : Operand} (ho : o.op = .indexAddr t x i) {v : V} (hv : evPure P vars (g, h) (.indexAddr t x i) = some v) :
    Fine P vars m c w g h a o v := by
  have hx := hC.opd x
  have hi := hC.opd i
  simp only [evPure] at hv
  split at hv
  · rename_i k rows n e he hn hu
    obtain ⟨kk, hkk⟩ := idx_spec hn
    rw [hkk] at hi
    have hi' : a.eval i = .int kk n := hi
    split at hv
    · rename_i h0
      split at hv
      · rename_i row hrow
        split at hv
        · rename_i hlen
          cases hv
          rw [he] at hx
          obtain ⟨ad, cap, hy, hsp, hro⟩ := VP.row hx hrow
          have hlt : n.toNat < rows.length := (List.getElem?_eq_some_iff.1 hrow).1
          refine ⟨.pointer (some (ad.add (n.toNat * tsize P e))), yields_of (by simp [execOp, ho, hy, hi']; rfl) ?_, ⟨_, rfl, ?_, ?_⟩, TagOK.bare rfl⟩
          · obtain ⟨ie, hie⟩ : ∃ ie, P.info? e = some ie := by
              cases hie : P.info? e with
              | some ie => exact ⟨ie, rfl⟩
              | none => have := hlen.2; simp [tsize, Program.cellsOf, hie] at this
            have hb : 0 ≤ n ∧ n < (rows.length : Int) := ⟨h0, by omega⟩
            simp [Instr.indexAt, asIntOf, run_underlying hu, hb, sizeOf, typeInfo, hie, size_of_info hie]
          · rw [add_eta hsp]
          · rw [add_eta hsp, ← hlen.1]
            exact hro
        · cases hv
      · cases hv
    · cases hv
  · rename_i b off mm n e he hn hu
    obtain ⟨kk, hkk⟩ := idx_spec hn
    rw [hkk] at hi
    have hi' : a.eval i = .int kk n := hi
    split at hv
    · rename_i hb
      cases hv
      rw [he] at hx
      obtain ⟨gb, cap, hg, hy, hcap⟩ := hx
      obtain ⟨ie, hie⟩ : ∃ ie, P.info? e = some ie := by
        cases hie : P.info? e with
        | some ie => exact ⟨ie, rfl⟩
        | none => have := hb.2.2; simp [tsize, Program.cellsOf, hie] at this
      have hs1 : ie.size = 1 := by rw [← size_of_info hie]; exact hb.2.2
      refine ⟨.pointer (some ((⟨gb, off, none⟩ : Addr).add n.toNat)), yields_of (by simp [execOp, ho, hy, hi']; rfl) ?_, ⟨gb, hg, by rw [add_none]⟩, TagOK.bare rfl⟩
      have hb' : 0 ≤ n ∧ n < (mm : Int) := ⟨hb.1, hb.2.1⟩
      simp [Instr.indexAt, asIntOf, run_underlying hu, hb', sizeOf, typeInfo, hie, hs1]
    · cases hv
  · rename_i b off n mm e he hn hu
    obtain ⟨kk, hkk⟩ := idx_spec hn
    rw [hkk] at hi
    have hi' : a.eval i = .int kk n := hi
    split at hv
    · rename_i hb
      cases hv
      rw [he] at hx
      obtain ⟨gb, hg, hy⟩ := hx
      obtain ⟨ie, hie⟩ : ∃ ie, P.info? e = some ie := by
        cases hie : P.info? e with
        | some ie => exact ⟨ie, rfl⟩
        | none => have := hb.2.2; simp [tsize, Program.cellsOf, hie] at this
      refine ⟨.pointer (some ((⟨gb, off, none⟩ : Addr).add (n.toNat * tsize P e))), yields_of (by simp [execOp, ho, hy, hi']; rfl) ?_, ⟨gb, hg, by rw [add_none]⟩, TagOK.bare rfl⟩
      have hb' : 0 ≤ n ∧ n < (mm : Int) := ⟨hb.1, hb.2.1⟩
      simp [Instr.indexAt, Instr.sureAddr, asIntOf, run_underlying hu, hb', sizeOf, typeInfo, hie, size_of_info hie]
    · cases hv
  · cases hv

theorem pure_index (hC : Core vars m c w g h a) {o : Oper} {t : TypeId} {x i : Operand} (ho : o.op = .index t x i) {v : V} (hv : evPure P vars (g, h) (.index t x i) = some v) :
    Fine P vars m c w g h a o v := by
  have hx := hC.opd x
  have hi := hC.opd i
  simp only [evPure] at hv
  split at hv
  · rename_i b n he hn hu
    obtain ⟨kk, hkk⟩ := idx_spec hn
    rw [hkk] at hi
    have hi' : a.eval i = .int kk n := hi
    rw [he] at hx
    have hx' : a.eval x = .string b := hx
    split at hv
    · rename_i h0
      cases hj : b.data[n.toNat]? with
      | none => simp [hj] at hv
      | some u =>
        simp only [hj, Option.map_some, Option.some.injEq] at hv
        subst hv
        refine ⟨_, yields_of (by simp [execOp, ho, hx', hi']; rfl) ?_, rfl, TagOK.bare rfl⟩
        have hb : b[n.toNat]? = some u := by
          obtain ⟨hl, hq⟩ := Array.getElem?_eq_some_iff.1 hj
          have : b[n.toNat]? = some (b[n.toNat]'hl) := by
            rw [getElem?_pos]
          rw [this]
          exact congrArg some hq
        simp [Instr.index, asIntOf, run_underlying hu, h0, hb]
    · cases hv
  · rename_i cs n mm e he hn hu
    obtain ⟨kk, hkk⟩ := idx_spec hn
    rw [hkk] at hi
    have hi' : a.eval i = .int kk n := hi
    rw [he] at hx
    obtain ⟨xs, hy, hr⟩ := hx
    split at hv
    · rename_i hb
      obtain ⟨y, hp, hvy, hbr⟩ := take_part hr hv
      refine ⟨y, yields_of (by simp [execOp, ho, hy, hi']; rfl) ?_, hvy.r, TagOK.bare hbr⟩
      obtain ⟨ie, hie⟩ : ∃ ie, P.info? e = some ie := by
        have : (ttag P e).isSome = true := by
          unfold takeCells at hv
          split at hv <;> simp_all
        unfold ttag at this
        split at this
        · rename_i hq; exact info_of_underlying hq
        · rename_i hq; exact info_of_underlying hq
        · rename_i hq; exact info_of_underlying hq
        · simp at this
      rw [size_of_info hie] at hp
      have hb' : 0 ≤ n ∧ n < (mm : Int) := ⟨hb.1, hb.2⟩
      simp [Instr.index, asIntOf, run_underlying hu, hb', sizeOf, typeInfo, hie, hp]
    · cases hv
  · cases hv

theorem pure_extract (hC : Core vars m c w g h a) {o : Oper} {x : Operand} {i : Nat} (ho : o.op = .extract x i) {v : V} (hv : evPure P vars (g, h) (.extract x i) = some v) :
    Fine P vars m c w g h a o v := by
  have hx := hC.opd x
  simp only [evPure] at hv
  split at hv
  · rename_i vs he
    rw [he] at hx
    obtain ⟨xs, hy, hr⟩ := hx
    cases hj : vs[i]? with
    | none => simp [hj] at hv
    | some u =>
      simp only [hj, Option.map_some, Option.some.injEq] at hv
      subst hv
      obtain ⟨z, hz, hu⟩ := hr.get hj
      have hz' : xs[i]? = some z := by simpa using hz
      exact ⟨z, yields_of (by simp [execOp, ho, hy]; rfl) (by simp [Instr.extract, hz']), hu.cps.r, TagOK.bare (bare_cps _)⟩
  · cases hv

end
end Go.Lift

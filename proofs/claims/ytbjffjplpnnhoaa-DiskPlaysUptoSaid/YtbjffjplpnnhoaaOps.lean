/-
  One law an operation: the operation by the equation of its run. At 'Oper.wp' (wp_..), at a plain region's list (wl_..), at a step of a region that draws (st_..).
-/
import Derived.Test.YtbjffjplpnnhoaaBase
namespace Go.Proofs.Ytbjffjplpnnhoaa
set_option linter.unusedVariables false
set_option linter.unusedSimpArgs false
section
variable {P : Program} {ops : Array Oper} {rest : List Oper} {o : Oper} {a : Act} {w : World} {K : Act → World → Prop} {Q : Exit → Act → World → Prop} {E : Prop}
theorem wp_alloc (t : TypeId) (ho : o.op = .alloc t) (h : ∃ v w', (Instr.alloc t true (.tuple #[])).run P w = .ok v w' ∧ K (a.put o.dst v) w') : o.wp P a w K Q := by
  obtain ⟨v, w', hrun, h⟩ := h
  unfold Oper.wp execOp
  simp only [ho, Sem.run_bind, Sem.run_pure, Result.andThen_ok] at hrun ⊢
  simp only [hrun, Result.andThen_ok]
  exact h
theorem wl_alloc (hg : o.guard = none) (t : TypeId) (ho : o.op = .alloc t) (h : ∃ v w', (Instr.alloc t true (.tuple #[])).run P w = .ok v w' ∧ wpList P ops Q rest (a.put o.dst v) w') : wpList P ops Q (o :: rest) a w := by
  obtain ⟨v, w', hrun, h⟩ := h
  exact wpList_plain hg fun _ hK => wp_alloc t ho ⟨v, w', hrun, hK _ _ h⟩
theorem st_alloc (hg : o.guard = none) (t : TypeId) (ho : o.op = .alloc t) (h : ∃ v w', (Instr.alloc t true (.tuple #[])).run P w = .ok v w' ∧ K (a.put o.dst v) w') : if Region.wanted o (yielded ops a.tmps) = true then o.wp P a w K Q else E := by
  rw [if_pos (by simp [Region.wanted, hg])]
  exact wp_alloc t ho h
theorem wp_box (t : TypeId) (x : Operand) (ho : o.op = .box t x) (h : ∃ v w', (Instr.box t (a.eval x)).run P w = .ok v w' ∧ K (a.put o.dst v) w') : o.wp P a w K Q := by
  obtain ⟨v, w', hrun, h⟩ := h
  unfold Oper.wp execOp
  simp only [ho, Sem.run_bind, Sem.run_pure, Result.andThen_ok] at hrun ⊢
  simp only [hrun, Result.andThen_ok]
  exact h
theorem wl_box (hg : o.guard = none) (t : TypeId) (x : Operand) (ho : o.op = .box t x) (h : ∃ v w', (Instr.box t (a.eval x)).run P w = .ok v w' ∧ wpList P ops Q rest (a.put o.dst v) w') : wpList P ops Q (o :: rest) a w := by
  obtain ⟨v, w', hrun, h⟩ := h
  exact wpList_plain hg fun _ hK => wp_box t x ho ⟨v, w', hrun, hK _ _ h⟩
theorem st_box (hg : o.guard = none) (t : TypeId) (x : Operand) (ho : o.op = .box t x) (h : ∃ v w', (Instr.box t (a.eval x)).run P w = .ok v w' ∧ K (a.put o.dst v) w') : if Region.wanted o (yielded ops a.tmps) = true then o.wp P a w K Q else E := by
  rw [if_pos (by simp [Region.wanted, hg])]
  exact wp_box t x ho h
theorem wp_build (t : TypeId) (ps : Array (Nat × Operand)) (vs : Array (Nat × Value)) (ho : o.op = .build t ps) (hvs : (ps.map fun p => (p.1, a.eval p.2)) = vs) (h : ∃ v w', (Instr.build t vs).run P w = .ok v w' ∧ K (a.put o.dst v) w') : o.wp P a w K Q := by
  obtain ⟨v, w', hrun, h⟩ := h
  subst hvs
  unfold Oper.wp execOp
  simp only [ho, Sem.run_bind, Sem.run_pure, Result.andThen_ok] at hrun ⊢
  simp only [hrun, Result.andThen_ok]
  exact h
theorem wl_build (hg : o.guard = none) (t : TypeId) (ps : Array (Nat × Operand)) (vs : Array (Nat × Value)) (ho : o.op = .build t ps) (hvs : (ps.map fun p => (p.1, a.eval p.2)) = vs) (h : ∃ v w', (Instr.build t vs).run P w = .ok v w' ∧ wpList P ops Q rest (a.put o.dst v) w') : wpList P ops Q (o :: rest) a w := by
  obtain ⟨v, w', hrun, h⟩ := h
  exact wpList_plain hg fun _ hK => wp_build t ps vs ho hvs ⟨v, w', hrun, hK _ _ h⟩
theorem st_build (hg : o.guard = none) (t : TypeId) (ps : Array (Nat × Operand)) (vs : Array (Nat × Value)) (ho : o.op = .build t ps) (hvs : (ps.map fun p => (p.1, a.eval p.2)) = vs) (h : ∃ v w', (Instr.build t vs).run P w = .ok v w' ∧ K (a.put o.dst v) w') : if Region.wanted o (yielded ops a.tmps) = true then o.wp P a w K Q else E := by
  rw [if_pos (by simp [Region.wanted, hg])]
  exact wp_build t ps vs ho hvs h
theorem wp_buildSlice (t : TypeId) (n : Nat) (ps : Array (Nat × Operand)) (vs : Array (Nat × Value)) (ho : o.op = .buildSlice t n ps) (hvs : (ps.map fun p => (p.1, a.eval p.2)) = vs) (h : ∃ v w', (Instr.buildSlice t n vs).run P w = .ok v w' ∧ K (a.put o.dst v) w') : o.wp P a w K Q := by
  obtain ⟨v, w', hrun, h⟩ := h
  subst hvs
  unfold Oper.wp execOp
  simp only [ho, Sem.run_bind, Sem.run_pure, Result.andThen_ok] at hrun ⊢
  simp only [hrun, Result.andThen_ok]
  exact h
theorem wl_buildSlice (hg : o.guard = none) (t : TypeId) (n : Nat) (ps : Array (Nat × Operand)) (vs : Array (Nat × Value)) (ho : o.op = .buildSlice t n ps) (hvs : (ps.map fun p => (p.1, a.eval p.2)) = vs) (h : ∃ v w', (Instr.buildSlice t n vs).run P w = .ok v w' ∧ wpList P ops Q rest (a.put o.dst v) w') : wpList P ops Q (o :: rest) a w := by
  obtain ⟨v, w', hrun, h⟩ := h
  exact wpList_plain hg fun _ hK => wp_buildSlice t n ps vs ho hvs ⟨v, w', hrun, hK _ _ h⟩
theorem st_buildSlice (hg : o.guard = none) (t : TypeId) (n : Nat) (ps : Array (Nat × Operand)) (vs : Array (Nat × Value)) (ho : o.op = .buildSlice t n ps) (hvs : (ps.map fun p => (p.1, a.eval p.2)) = vs) (h : ∃ v w', (Instr.buildSlice t n vs).run P w = .ok v w' ∧ K (a.put o.dst v) w') : if Region.wanted o (yielded ops a.tmps) = true then o.wp P a w K Q else E := by
  rw [if_pos (by simp [Region.wanted, hg])]
  exact wp_buildSlice t n ps vs ho hvs h
theorem wp_load (t : TypeId) (x : Operand) (ho : o.op = .load t x) (h : ∃ v w', (Instr.loadAt t (a.eval x)).run P w = .ok v w' ∧ K (a.put o.dst v) w') : o.wp P a w K Q := by
  obtain ⟨v, w', hrun, h⟩ := h
  unfold Oper.wp execOp
  simp only [ho, Sem.run_bind, Sem.run_pure, Result.andThen_ok] at hrun ⊢
  simp only [hrun, Result.andThen_ok]
  exact h
theorem wl_load (hg : o.guard = none) (t : TypeId) (x : Operand) (ho : o.op = .load t x) (h : ∃ v w', (Instr.loadAt t (a.eval x)).run P w = .ok v w' ∧ wpList P ops Q rest (a.put o.dst v) w') : wpList P ops Q (o :: rest) a w := by
  obtain ⟨v, w', hrun, h⟩ := h
  exact wpList_plain hg fun _ hK => wp_load t x ho ⟨v, w', hrun, hK _ _ h⟩
theorem st_load (hg : o.guard = none) (t : TypeId) (x : Operand) (ho : o.op = .load t x) (h : ∃ v w', (Instr.loadAt t (a.eval x)).run P w = .ok v w' ∧ K (a.put o.dst v) w') : if Region.wanted o (yielded ops a.tmps) = true then o.wp P a w K Q else E := by
  rw [if_pos (by simp [Region.wanted, hg])]
  exact wp_load t x ho h
theorem wp_store (t : TypeId) (x y : Operand) (ho : o.op = .store t x y) (h : ∃ w', (Instr.storeAt t (a.eval x) (a.eval y)).run P w = .ok () w' ∧ K (a.put o.dst undef) w') : o.wp P a w K Q := by
  obtain ⟨w', hrun, h⟩ := h
  unfold Oper.wp execOp
  simp only [ho, Sem.run_bind, Sem.run_pure, Result.andThen_ok] at hrun ⊢
  simp only [hrun, Result.andThen_ok]
  exact h
theorem wl_store (hg : o.guard = none) (t : TypeId) (x y : Operand) (ho : o.op = .store t x y) (h : ∃ w', (Instr.storeAt t (a.eval x) (a.eval y)).run P w = .ok () w' ∧ wpList P ops Q rest (a.put o.dst undef) w') : wpList P ops Q (o :: rest) a w := by
  obtain ⟨w', hrun, h⟩ := h
  exact wpList_plain hg fun _ hK => wp_store t x y ho ⟨w', hrun, hK _ _ h⟩
theorem st_store (hg : o.guard = none) (t : TypeId) (x y : Operand) (ho : o.op = .store t x y) (h : ∃ w', (Instr.storeAt t (a.eval x) (a.eval y)).run P w = .ok () w' ∧ K (a.put o.dst undef) w') : if Region.wanted o (yielded ops a.tmps) = true then o.wp P a w K Q else E := by
  rw [if_pos (by simp [Region.wanted, hg])]
  exact wp_store t x y ho h
theorem wp_makeSlice (t : TypeId) (l c : Operand) (ho : o.op = .makeSlice t l c) (h : ∃ v w', (Instr.makeSlice t (a.eval l) (a.eval c)).run P w = .ok v w' ∧ K (a.put o.dst v) w') : o.wp P a w K Q := by
  obtain ⟨v, w', hrun, h⟩ := h
  unfold Oper.wp execOp
  simp only [ho, Sem.run_bind, Sem.run_pure, Result.andThen_ok] at hrun ⊢
  simp only [hrun, Result.andThen_ok]
  exact h
theorem wl_makeSlice (hg : o.guard = none) (t : TypeId) (l c : Operand) (ho : o.op = .makeSlice t l c) (h : ∃ v w', (Instr.makeSlice t (a.eval l) (a.eval c)).run P w = .ok v w' ∧ wpList P ops Q rest (a.put o.dst v) w') : wpList P ops Q (o :: rest) a w := by
  obtain ⟨v, w', hrun, h⟩ := h
  exact wpList_plain hg fun _ hK => wp_makeSlice t l c ho ⟨v, w', hrun, hK _ _ h⟩
theorem st_makeSlice (hg : o.guard = none) (t : TypeId) (l c : Operand) (ho : o.op = .makeSlice t l c) (h : ∃ v w', (Instr.makeSlice t (a.eval l) (a.eval c)).run P w = .ok v w' ∧ K (a.put o.dst v) w') : if Region.wanted o (yielded ops a.tmps) = true then o.wp P a w K Q else E := by
  rw [if_pos (by simp [Region.wanted, hg])]
  exact wp_makeSlice t l c ho h
theorem wp_slice (t : TypeId) (x : Operand) (lo hi mx : Option Operand) (ho : o.op = .slice t x lo hi mx) (h : ∃ v w', (Instr.sliceAt t (a.eval x) (lo.map a.eval) (hi.map a.eval) (mx.map a.eval)).run P w = .ok v w' ∧ K (a.put o.dst v) w') : o.wp P a w K Q := by
  obtain ⟨v, w', hrun, h⟩ := h
  unfold Oper.wp execOp
  simp only [ho, Sem.run_bind, Sem.run_pure, Result.andThen_ok] at hrun ⊢
  simp only [hrun, Result.andThen_ok]
  exact h
theorem wl_slice (hg : o.guard = none) (t : TypeId) (x : Operand) (lo hi mx : Option Operand) (ho : o.op = .slice t x lo hi mx) (h : ∃ v w', (Instr.sliceAt t (a.eval x) (lo.map a.eval) (hi.map a.eval) (mx.map a.eval)).run P w = .ok v w' ∧ wpList P ops Q rest (a.put o.dst v) w') : wpList P ops Q (o :: rest) a w := by
  obtain ⟨v, w', hrun, h⟩ := h
  exact wpList_plain hg fun _ hK => wp_slice t x lo hi mx ho ⟨v, w', hrun, hK _ _ h⟩
theorem st_slice (hg : o.guard = none) (t : TypeId) (x : Operand) (lo hi mx : Option Operand) (ho : o.op = .slice t x lo hi mx) (h : ∃ v w', (Instr.sliceAt t (a.eval x) (lo.map a.eval) (hi.map a.eval) (mx.map a.eval)).run P w = .ok v w' ∧ K (a.put o.dst v) w') : if Region.wanted o (yielded ops a.tmps) = true then o.wp P a w K Q else E := by
  rw [if_pos (by simp [Region.wanted, hg])]
  exact wp_slice t x lo hi mx ho h
theorem wp_binOp (b : BinOp) (t : TypeId) (x y : Operand) (t2 : TypeId) (ho : o.op = .binOp b t x y t2) (h : ∃ v w', (do eqGuard b t x y (a.eval x) (a.eval y); binOp b t (a.eval x) (a.eval y)).run P w = .ok v w' ∧ K (a.put o.dst v) w') : o.wp P a w K Q := by
  obtain ⟨v, w', hrun, h⟩ := h
  unfold Oper.wp execOp
  simp only [ho, Sem.run_bind, Sem.run_pure, Result.andThen_ok] at hrun ⊢
  simp only [hrun, Result.andThen_ok]
  exact h
theorem wl_binOp (hg : o.guard = none) (b : BinOp) (t : TypeId) (x y : Operand) (t2 : TypeId) (ho : o.op = .binOp b t x y t2) (h : ∃ v w', (do eqGuard b t x y (a.eval x) (a.eval y); binOp b t (a.eval x) (a.eval y)).run P w = .ok v w' ∧ wpList P ops Q rest (a.put o.dst v) w') : wpList P ops Q (o :: rest) a w := by
  obtain ⟨v, w', hrun, h⟩ := h
  exact wpList_plain hg fun _ hK => wp_binOp b t x y t2 ho ⟨v, w', hrun, hK _ _ h⟩
theorem st_binOp (hg : o.guard = none) (b : BinOp) (t : TypeId) (x y : Operand) (t2 : TypeId) (ho : o.op = .binOp b t x y t2) (h : ∃ v w', (do eqGuard b t x y (a.eval x) (a.eval y); binOp b t (a.eval x) (a.eval y)).run P w = .ok v w' ∧ K (a.put o.dst v) w') : if Region.wanted o (yielded ops a.tmps) = true then o.wp P a w K Q else E := by
  rw [if_pos (by simp [Region.wanted, hg])]
  exact wp_binOp b t x y t2 ho h
theorem wp_convert (s d : TypeId) (x : Operand) (ho : o.op = .convert s d x) (h : ∃ v w', (convert s d (a.eval x)).run P w = .ok v w' ∧ K (a.put o.dst v) w') : o.wp P a w K Q := by
  obtain ⟨v, w', hrun, h⟩ := h
  unfold Oper.wp execOp
  simp only [ho, Sem.run_bind, Sem.run_pure, Result.andThen_ok] at hrun ⊢
  simp only [hrun, Result.andThen_ok]
  exact h
theorem wl_convert (hg : o.guard = none) (s d : TypeId) (x : Operand) (ho : o.op = .convert s d x) (h : ∃ v w', (convert s d (a.eval x)).run P w = .ok v w' ∧ wpList P ops Q rest (a.put o.dst v) w') : wpList P ops Q (o :: rest) a w := by
  obtain ⟨v, w', hrun, h⟩ := h
  exact wpList_plain hg fun _ hK => wp_convert s d x ho ⟨v, w', hrun, hK _ _ h⟩
theorem st_convert (hg : o.guard = none) (s d : TypeId) (x : Operand) (ho : o.op = .convert s d x) (h : ∃ v w', (convert s d (a.eval x)).run P w = .ok v w' ∧ K (a.put o.dst v) w') : if Region.wanted o (yielded ops a.tmps) = true then o.wp P a w K Q else E := by
  rw [if_pos (by simp [Region.wanted, hg])]
  exact wp_convert s d x ho h
theorem wp_index (t : TypeId) (x y : Operand) (ho : o.op = .index t x y) (h : ∃ v w', (Instr.index t (a.eval x) (a.eval y)).run P w = .ok v w' ∧ K (a.put o.dst v) w') : o.wp P a w K Q := by
  obtain ⟨v, w', hrun, h⟩ := h
  unfold Oper.wp execOp
  simp only [ho, Sem.run_bind, Sem.run_pure, Result.andThen_ok] at hrun ⊢
  simp only [hrun, Result.andThen_ok]
  exact h
theorem wl_index (hg : o.guard = none) (t : TypeId) (x y : Operand) (ho : o.op = .index t x y) (h : ∃ v w', (Instr.index t (a.eval x) (a.eval y)).run P w = .ok v w' ∧ wpList P ops Q rest (a.put o.dst v) w') : wpList P ops Q (o :: rest) a w := by
  obtain ⟨v, w', hrun, h⟩ := h
  exact wpList_plain hg fun _ hK => wp_index t x y ho ⟨v, w', hrun, hK _ _ h⟩
theorem st_index (hg : o.guard = none) (t : TypeId) (x y : Operand) (ho : o.op = .index t x y) (h : ∃ v w', (Instr.index t (a.eval x) (a.eval y)).run P w = .ok v w' ∧ K (a.put o.dst v) w') : if Region.wanted o (yielded ops a.tmps) = true then o.wp P a w K Q else E := by
  rw [if_pos (by simp [Region.wanted, hg])]
  exact wp_index t x y ho h
theorem wp_field (t : TypeId) (x : Operand) (f : Nat) (ho : o.op = .field t x f) (h : ∃ v w', (Instr.field t (a.eval x) f).run P w = .ok v w' ∧ K (a.put o.dst v) w') : o.wp P a w K Q := by
  obtain ⟨v, w', hrun, h⟩ := h
  unfold Oper.wp execOp
  simp only [ho, Sem.run_bind, Sem.run_pure, Result.andThen_ok] at hrun ⊢
  simp only [hrun, Result.andThen_ok]
  exact h
theorem wl_field (hg : o.guard = none) (t : TypeId) (x : Operand) (f : Nat) (ho : o.op = .field t x f) (h : ∃ v w', (Instr.field t (a.eval x) f).run P w = .ok v w' ∧ wpList P ops Q rest (a.put o.dst v) w') : wpList P ops Q (o :: rest) a w := by
  obtain ⟨v, w', hrun, h⟩ := h
  exact wpList_plain hg fun _ hK => wp_field t x f ho ⟨v, w', hrun, hK _ _ h⟩
theorem st_field (hg : o.guard = none) (t : TypeId) (x : Operand) (f : Nat) (ho : o.op = .field t x f) (h : ∃ v w', (Instr.field t (a.eval x) f).run P w = .ok v w' ∧ K (a.put o.dst v) w') : if Region.wanted o (yielded ops a.tmps) = true then o.wp P a w K Q else E := by
  rw [if_pos (by simp [Region.wanted, hg])]
  exact wp_field t x f ho h
theorem wp_lookup (t : TypeId) (x y : Operand) (ok : Bool) (ho : o.op = .lookup t x y ok) (h : ∃ v w', (Instr.lookup t (a.eval x) (a.eval y) ok).run P w = .ok v w' ∧ K (a.put o.dst v) w') : o.wp P a w K Q := by
  obtain ⟨v, w', hrun, h⟩ := h
  unfold Oper.wp execOp
  simp only [ho, Sem.run_bind, Sem.run_pure, Result.andThen_ok] at hrun ⊢
  simp only [hrun, Result.andThen_ok]
  exact h
theorem wl_lookup (hg : o.guard = none) (t : TypeId) (x y : Operand) (ok : Bool) (ho : o.op = .lookup t x y ok) (h : ∃ v w', (Instr.lookup t (a.eval x) (a.eval y) ok).run P w = .ok v w' ∧ wpList P ops Q rest (a.put o.dst v) w') : wpList P ops Q (o :: rest) a w := by
  obtain ⟨v, w', hrun, h⟩ := h
  exact wpList_plain hg fun _ hK => wp_lookup t x y ok ho ⟨v, w', hrun, hK _ _ h⟩
theorem st_lookup (hg : o.guard = none) (t : TypeId) (x y : Operand) (ok : Bool) (ho : o.op = .lookup t x y ok) (h : ∃ v w', (Instr.lookup t (a.eval x) (a.eval y) ok).run P w = .ok v w' ∧ K (a.put o.dst v) w') : if Region.wanted o (yielded ops a.tmps) = true then o.wp P a w K Q else E := by
  rw [if_pos (by simp [Region.wanted, hg])]
  exact wp_lookup t x y ok ho h
theorem wp_mapUpdate (t : TypeId) (x y z : Operand) (ho : o.op = .mapUpdate t x y z) (h : ∃ w', (Instr.mapUpdate t (a.eval x) (a.eval y) (a.eval z)).run P w = .ok () w' ∧ K (a.put o.dst undef) w') : o.wp P a w K Q := by
  obtain ⟨w', hrun, h⟩ := h
  unfold Oper.wp execOp
  simp only [ho, Sem.run_bind, Sem.run_pure, Result.andThen_ok] at hrun ⊢
  simp only [hrun, Result.andThen_ok]
  exact h
theorem wl_mapUpdate (hg : o.guard = none) (t : TypeId) (x y z : Operand) (ho : o.op = .mapUpdate t x y z) (h : ∃ w', (Instr.mapUpdate t (a.eval x) (a.eval y) (a.eval z)).run P w = .ok () w' ∧ wpList P ops Q rest (a.put o.dst undef) w') : wpList P ops Q (o :: rest) a w := by
  obtain ⟨w', hrun, h⟩ := h
  exact wpList_plain hg fun _ hK => wp_mapUpdate t x y z ho ⟨w', hrun, hK _ _ h⟩
theorem st_mapUpdate (hg : o.guard = none) (t : TypeId) (x y z : Operand) (ho : o.op = .mapUpdate t x y z) (h : ∃ w', (Instr.mapUpdate t (a.eval x) (a.eval y) (a.eval z)).run P w = .ok () w' ∧ K (a.put o.dst undef) w') : if Region.wanted o (yielded ops a.tmps) = true then o.wp P a w K Q else E := by
  rw [if_pos (by simp [Region.wanted, hg])]
  exact wp_mapUpdate t x y z ho h
/-- A builtin's call. -/
theorem wp_builtin (b : Builtin) (args : Array Operand) (ts : Array TypeId) (ho : o.op = .call { callee := .builtin b, args, argTypes := ts }) 
    (h : ∃ v w', (∀ cs : Array Bool, (builtin b ts o.type cs (args.map a.eval)).run P w = .ok (.value v) w') ∧ K (a.put o.dst v) w') : o.wp P a w K Q := by
  obtain ⟨v, w', hrun, h⟩ := h
  unfold Oper.wp execOp
  simp only [ho, resolve, invoke, Sem.run_bind, Sem.run_pure, Result.andThen_ok, hrun]
  exact h
theorem wl_builtin (hg : o.guard = none) (b : Builtin) (args : Array Operand) (ts : Array TypeId) (ho : o.op = .call { callee := .builtin b, args, argTypes := ts }) 
    (h : ∃ v w', (∀ cs : Array Bool, (builtin b ts o.type cs (args.map a.eval)).run P w = .ok (.value v) w') ∧ wpList P ops Q rest (a.put o.dst v) w') : wpList P ops Q (o :: rest) a w := by
  obtain ⟨v, w', hrun, h⟩ := h
  exact wpList_plain hg fun _ hK => wp_builtin b args ts ho ⟨v, w', hrun, hK _ _ h⟩
theorem st_builtin (hg : o.guard = none) (b : Builtin) (args : Array Operand) (ts : Array TypeId) (ho : o.op = .call { callee := .builtin b, args, argTypes := ts }) 
    (h : ∃ v w', (∀ cs : Array Bool, (builtin b ts o.type cs (args.map a.eval)).run P w = .ok (.value v) w') ∧ K (a.put o.dst v) w') : if Region.wanted o (yielded ops a.tmps) = true then o.wp P a w K Q else E := by
  rw [if_pos (by simp [Region.wanted, hg])]
  exact wp_builtin b args ts ho h
/-- copy between slices of one-celled elements. -/
theorem run_builtin_copy {w' : World} {dT sT ty : TypeId} {d s v : Value} (h : (Builtin.copy_ #[dT, sT] ty #[d, s]).run P w = .ok v w') : ∀ cs : Array Bool, (builtin .copy #[dT, sT] ty cs #[d, s]).run P w = .ok (.value v) w' := by
  intro cs
  simp [builtin, h, Result.andThen]
theorem run_builtin_append {w' : World} {dT sT ty : TypeId} {d s v : Value} (h : (Builtin.append_ #[dT, sT] ty #[d, s]).run P w = .ok v w') : ∀ cs : Array Bool, (builtin .append #[dT, sT] ty cs #[d, s]).run P w = .ok (.value v) w' := by
  intro cs
  simp [builtin, h, Result.andThen]
theorem run_builtin_clear {w' : World} {dT ty : TypeId} {d v : Value} (h : (Builtin.clear_ #[dT] ty #[d]).run P w = .ok v w') : ∀ cs : Array Bool, (builtin .clear #[dT] ty cs #[d]).run P w = .ok (.value v) w' := by
  intro cs
  simp [builtin, h, Result.andThen]
end

/-- alloc: a new variable at its type's zero. -/
theorem run_alloc {P : Program} (w : World) {t : TypeId} {z : Value} {n k : Nat} (hz : (P.info? t).map (fun i => (i.zero, i.size, i.bytes)) = some (some z, n, k)) :
    (Instr.alloc t true (.tuple #[])).run P w = .ok (.pointer (some ⟨w.heap.size, 0, none⟩)) (w.alloc (.cells z.cells t)) := by
  obtain ⟨i, hi, h1, h2, h3⟩ := info_parts hz
  simp [Instr.alloc, zeroValue, typeInfo, hi, h1, newVar, newRow, Result.andThen]

/-- A row of cells read one behind the other, as the walk meets it. -/
theorem run_loadFrom_range {P : Program} {w : World} {b o n : Nat} {cs : List Value} (h : w.rangeAt b o cs) (hn : cs.length = n) : (loadCellsFrom ⟨b, o, none⟩ 0 n #[]).run P w = .ok cs.toArray w := by
  subst hn
  have := run_loadCells_list (P := P) w ⟨b, o, none⟩ cs (fun j v hv => by rw [Addr.add_mid]; exact h j v hv)
  simpa [loadCells] using this

/-- A slice literal of one aggregate. -/
theorem run_buildSlice_one {P : Program} (w : World) {t e : TypeId} {cs : Array Value} {n k : Nat} {z : Value} (ht : P.underlying t = some (.slice e)) (hz : (P.info? e).map (fun i => (i.zero, i.size, i.bytes)) = some (some z, n, k)) (hn : cs.size = n) (hn0 : 0 < n) (hn1 : n ≤ 16777216) :
    (Instr.buildSlice t 1 #[(0, .agg cs)]).run P w = .ok (.slice (some ⟨w.heap.size, 0, none⟩) 1 1) (w.alloc (.cells cs e)) := by
  obtain ⟨i, hi, h1, h2, h3⟩ := info_parts hz
  have hfold : ∀ (l : List Value) (k : Nat) (acc : Array Value), acc.size = k + l.length → ((l.zipIdx k).foldl (fun cs x => cs.setIfInBounds x.snd x.fst) acc) = (acc.toList.take k ++ l).toArray := by
    intro l
    induction l with
    | nil => intro k acc hk; simp at hk; apply Array.ext'; simp [List.take_of_length_le, hk]
    | cons c l ih =>
      intro k acc hk
      simp only [List.zipIdx_cons, List.foldl_cons]
      rw [ih (k + 1) _ (by simp at hk ⊢; omega)]
      apply Array.ext'
      simp only [Array.toList_setIfInBounds]
      have hk' : k < acc.toList.length := by simp at hk ⊢; omega
      rw [List.take_succ_eq_append_getElem (by simpa using hk')]
      simp [List.take_set]
      rw [List.set_eq_of_length_le (by simp; omega)]
  have hf := hfold cs.toList 0
  have hn2 : ¬ (16777216 < n) := by omega
  have hn3 : ¬ n = 0 := by omega
  simp [Instr.buildSlice, run_underlying ht, sizeOf, typeInfo, hi, h2, hn2, hn3, zeroValue, h1, Instr.fill, Value.cells, hn, newRow, Result.andThen]
  generalize hX : Array.map _ (Array.range n) = X
  have hXs : X.size = n := by rw [← hX]; simp
  have e : Array.foldl (fun cs x => cs.setIfInBounds x.snd x.fst) X cs.zipIdx 0 n = Array.foldl (fun cs x => cs.setIfInBounds x.snd x.fst) X cs.zipIdx := by rw [show cs.zipIdx.size = n by simpa using hn]
  rw [e, ← Array.foldl_toList, Array.toList_zipIdx, hf X (by simp [hXs, hn])]
  simp
end Go.Proofs.Ytbjffjplpnnhoaa

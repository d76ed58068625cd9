/- The engine, part U: a goal's first operation told by its kind, so that a walk tries only the steps of that kind. No condition. Printed by wip/bin/genat.py. -/
import Derived.Test.YtpbokegnbipbjaaEngT
namespace Go.Proofs.Ytpbokegnbipbjaa
namespace Eng
section
variable {P : Program} {ops : Array Oper} {RO eff : Nat → Bool} {ALL : List Nat} {news : List (List Nat)} {k : Nat} {rest : List Oper} {R : St → Prop} {s : St} {d : Option Tmp} {op : Op} {ty : TypeId} {pos : String} {after : Array Edge} {g : Option (Nat × Bool)} {j : Nat} {want : Bool}

theorem l_at_move {x} (h : L P ops (⟨d, .move x, ty, pos, after, none⟩ :: rest) R s) : L P ops (⟨d, .move x, ty, pos, after, none⟩ :: rest) R s := h
theorem d_at_move {x} (h : D P ops RO eff ALL news k (⟨d, .move x, ty, pos, after, g⟩ :: rest) R s) : D P ops RO eff ALL news k (⟨d, .move x, ty, pos, after, g⟩ :: rest) R s := h
theorem l_at_assign {x} (h : L P ops (⟨d, .assign x, ty, pos, after, none⟩ :: rest) R s) : L P ops (⟨d, .assign x, ty, pos, after, none⟩ :: rest) R s := h
theorem d_at_assign {x} (h : D P ops RO eff ALL news k (⟨d, .assign x, ty, pos, after, g⟩ :: rest) R s) : D P ops RO eff ALL news k (⟨d, .assign x, ty, pos, after, g⟩ :: rest) R s := h
theorem l_at_pick {x y z} (h : L P ops (⟨d, .pick x y z, ty, pos, after, none⟩ :: rest) R s) : L P ops (⟨d, .pick x y z, ty, pos, after, none⟩ :: rest) R s := h
theorem d_at_pick {x y z} (h : D P ops RO eff ALL news k (⟨d, .pick x y z, ty, pos, after, g⟩ :: rest) R s) : D P ops RO eff ALL news k (⟨d, .pick x y z, ty, pos, after, g⟩ :: rest) R s := h
theorem l_at_not {t x} (h : L P ops (⟨d, .unOp .not t x, ty, pos, after, none⟩ :: rest) R s) : L P ops (⟨d, .unOp .not t x, ty, pos, after, none⟩ :: rest) R s := h
theorem d_at_not {t x} (h : D P ops RO eff ALL news k (⟨d, .unOp .not t x, ty, pos, after, g⟩ :: rest) R s) : D P ops RO eff ALL news k (⟨d, .unOp .not t x, ty, pos, after, g⟩ :: rest) R s := h
theorem l_at_neg {t x} (h : L P ops (⟨d, .unOp .neg t x, ty, pos, after, none⟩ :: rest) R s) : L P ops (⟨d, .unOp .neg t x, ty, pos, after, none⟩ :: rest) R s := h
theorem d_at_neg {t x} (h : D P ops RO eff ALL news k (⟨d, .unOp .neg t x, ty, pos, after, g⟩ :: rest) R s) : D P ops RO eff ALL news k (⟨d, .unOp .neg t x, ty, pos, after, g⟩ :: rest) R s := h
theorem l_at_len {x c} (h : L P ops (⟨d, .call ⟨.builtin .len, #[x], #[c]⟩, ty, pos, after, none⟩ :: rest) R s) : L P ops (⟨d, .call ⟨.builtin .len, #[x], #[c]⟩, ty, pos, after, none⟩ :: rest) R s := h
theorem d_at_len {x c} (h : D P ops RO eff ALL news k (⟨d, .call ⟨.builtin .len, #[x], #[c]⟩, ty, pos, after, g⟩ :: rest) R s) : D P ops RO eff ALL news k (⟨d, .call ⟨.builtin .len, #[x], #[c]⟩, ty, pos, after, g⟩ :: rest) R s := h
theorem l_at_append {a b} (h : L P ops (⟨d, .call ⟨.builtin .append, a, b⟩, ty, pos, after, none⟩ :: rest) R s) : L P ops (⟨d, .call ⟨.builtin .append, a, b⟩, ty, pos, after, none⟩ :: rest) R s := h
theorem d_at_append {a b} (h : D P ops RO eff ALL news k (⟨d, .call ⟨.builtin .append, a, b⟩, ty, pos, after, g⟩ :: rest) R s) : D P ops RO eff ALL news k (⟨d, .call ⟨.builtin .append, a, b⟩, ty, pos, after, g⟩ :: rest) R s := h
theorem l_at_callf {f a b} (h : L P ops (⟨d, .call ⟨.value (.func f), a, b⟩, ty, pos, after, none⟩ :: rest) R s) : L P ops (⟨d, .call ⟨.value (.func f), a, b⟩, ty, pos, after, none⟩ :: rest) R s := h
theorem d_at_callf {f a b} (h : D P ops RO eff ALL news k (⟨d, .call ⟨.value (.func f), a, b⟩, ty, pos, after, g⟩ :: rest) R s) : D P ops RO eff ALL news k (⟨d, .call ⟨.value (.func f), a, b⟩, ty, pos, after, g⟩ :: rest) R s := h
theorem l_at_callt {f a b} (h : L P ops (⟨d, .call ⟨.value (.tmp f), a, b⟩, ty, pos, after, none⟩ :: rest) R s) : L P ops (⟨d, .call ⟨.value (.tmp f), a, b⟩, ty, pos, after, none⟩ :: rest) R s := h
theorem d_at_callt {f a b} (h : D P ops RO eff ALL news k (⟨d, .call ⟨.value (.tmp f), a, b⟩, ty, pos, after, g⟩ :: rest) R s) : D P ops RO eff ALL news k (⟨d, .call ⟨.value (.tmp f), a, b⟩, ty, pos, after, g⟩ :: rest) R s := h
theorem l_at_load {t x} (h : L P ops (⟨d, .load t x, ty, pos, after, none⟩ :: rest) R s) : L P ops (⟨d, .load t x, ty, pos, after, none⟩ :: rest) R s := h
theorem d_at_load {t x} (h : D P ops RO eff ALL news k (⟨d, .load t x, ty, pos, after, g⟩ :: rest) R s) : D P ops RO eff ALL news k (⟨d, .load t x, ty, pos, after, g⟩ :: rest) R s := h
theorem l_at_store {t x y} (h : L P ops (⟨d, .store t x y, ty, pos, after, none⟩ :: rest) R s) : L P ops (⟨d, .store t x y, ty, pos, after, none⟩ :: rest) R s := h
theorem d_at_store {t x y} (h : D P ops RO eff ALL news k (⟨d, .store t x y, ty, pos, after, g⟩ :: rest) R s) : D P ops RO eff ALL news k (⟨d, .store t x y, ty, pos, after, g⟩ :: rest) R s := h
theorem l_at_fieldAddr {t x f} (h : L P ops (⟨d, .fieldAddr t x f, ty, pos, after, none⟩ :: rest) R s) : L P ops (⟨d, .fieldAddr t x f, ty, pos, after, none⟩ :: rest) R s := h
theorem d_at_fieldAddr {t x f} (h : D P ops RO eff ALL news k (⟨d, .fieldAddr t x f, ty, pos, after, g⟩ :: rest) R s) : D P ops RO eff ALL news k (⟨d, .fieldAddr t x f, ty, pos, after, g⟩ :: rest) R s := h
theorem l_at_field {t x f} (h : L P ops (⟨d, .field t x f, ty, pos, after, none⟩ :: rest) R s) : L P ops (⟨d, .field t x f, ty, pos, after, none⟩ :: rest) R s := h
theorem d_at_field {t x f} (h : D P ops RO eff ALL news k (⟨d, .field t x f, ty, pos, after, g⟩ :: rest) R s) : D P ops RO eff ALL news k (⟨d, .field t x f, ty, pos, after, g⟩ :: rest) R s := h
theorem l_at_indexAddr {t x y} (h : L P ops (⟨d, .indexAddr t x y, ty, pos, after, none⟩ :: rest) R s) : L P ops (⟨d, .indexAddr t x y, ty, pos, after, none⟩ :: rest) R s := h
theorem d_at_indexAddr {t x y} (h : D P ops RO eff ALL news k (⟨d, .indexAddr t x y, ty, pos, after, g⟩ :: rest) R s) : D P ops RO eff ALL news k (⟨d, .indexAddr t x y, ty, pos, after, g⟩ :: rest) R s := h
theorem l_at_index {t x y} (h : L P ops (⟨d, .index t x y, ty, pos, after, none⟩ :: rest) R s) : L P ops (⟨d, .index t x y, ty, pos, after, none⟩ :: rest) R s := h
theorem d_at_index {t x y} (h : D P ops RO eff ALL news k (⟨d, .index t x y, ty, pos, after, g⟩ :: rest) R s) : D P ops RO eff ALL news k (⟨d, .index t x y, ty, pos, after, g⟩ :: rest) R s := h
theorem l_at_box {t x} (h : L P ops (⟨d, .box t x, ty, pos, after, none⟩ :: rest) R s) : L P ops (⟨d, .box t x, ty, pos, after, none⟩ :: rest) R s := h
theorem d_at_box {t x} (h : D P ops RO eff ALL news k (⟨d, .box t x, ty, pos, after, g⟩ :: rest) R s) : D P ops RO eff ALL news k (⟨d, .box t x, ty, pos, after, g⟩ :: rest) R s := h
theorem l_at_alloc {t} (h : L P ops (⟨d, .alloc t, ty, pos, after, none⟩ :: rest) R s) : L P ops (⟨d, .alloc t, ty, pos, after, none⟩ :: rest) R s := h
theorem d_at_alloc {t} (h : D P ops RO eff ALL news k (⟨d, .alloc t, ty, pos, after, g⟩ :: rest) R s) : D P ops RO eff ALL news k (⟨d, .alloc t, ty, pos, after, g⟩ :: rest) R s := h
theorem l_at_makeSlice {t x y} (h : L P ops (⟨d, .makeSlice t x y, ty, pos, after, none⟩ :: rest) R s) : L P ops (⟨d, .makeSlice t x y, ty, pos, after, none⟩ :: rest) R s := h
theorem d_at_makeSlice {t x y} (h : D P ops RO eff ALL news k (⟨d, .makeSlice t x y, ty, pos, after, g⟩ :: rest) R s) : D P ops RO eff ALL news k (⟨d, .makeSlice t x y, ty, pos, after, g⟩ :: rest) R s := h
theorem l_at_buildSlice {t n p} (h : L P ops (⟨d, .buildSlice t n p, ty, pos, after, none⟩ :: rest) R s) : L P ops (⟨d, .buildSlice t n p, ty, pos, after, none⟩ :: rest) R s := h
theorem d_at_buildSlice {t n p} (h : D P ops RO eff ALL news k (⟨d, .buildSlice t n p, ty, pos, after, g⟩ :: rest) R s) : D P ops RO eff ALL news k (⟨d, .buildSlice t n p, ty, pos, after, g⟩ :: rest) R s := h
theorem l_at_slice {t x a b c} (h : L P ops (⟨d, .slice t x a b c, ty, pos, after, none⟩ :: rest) R s) : L P ops (⟨d, .slice t x a b c, ty, pos, after, none⟩ :: rest) R s := h
theorem d_at_slice {t x a b c} (h : D P ops RO eff ALL news k (⟨d, .slice t x a b c, ty, pos, after, g⟩ :: rest) R s) : D P ops RO eff ALL news k (⟨d, .slice t x a b c, ty, pos, after, g⟩ :: rest) R s := h
theorem l_at_build {t p} (h : L P ops (⟨d, .build t p, ty, pos, after, none⟩ :: rest) R s) : L P ops (⟨d, .build t p, ty, pos, after, none⟩ :: rest) R s := h
theorem d_at_build {t p} (h : D P ops RO eff ALL news k (⟨d, .build t p, ty, pos, after, g⟩ :: rest) R s) : D P ops RO eff ALL news k (⟨d, .build t p, ty, pos, after, g⟩ :: rest) R s := h
theorem l_at_extract {x i} (h : L P ops (⟨d, .extract x i, ty, pos, after, none⟩ :: rest) R s) : L P ops (⟨d, .extract x i, ty, pos, after, none⟩ :: rest) R s := h
theorem d_at_extract {x i} (h : D P ops RO eff ALL news k (⟨d, .extract x i, ty, pos, after, g⟩ :: rest) R s) : D P ops RO eff ALL news k (⟨d, .extract x i, ty, pos, after, g⟩ :: rest) R s := h
theorem l_at_convert {t u x} (h : L P ops (⟨d, .convert t u x, ty, pos, after, none⟩ :: rest) R s) : L P ops (⟨d, .convert t u x, ty, pos, after, none⟩ :: rest) R s := h
theorem d_at_convert {t u x} (h : D P ops RO eff ALL news k (⟨d, .convert t u x, ty, pos, after, g⟩ :: rest) R s) : D P ops RO eff ALL news k (⟨d, .convert t u x, ty, pos, after, g⟩ :: rest) R s := h
theorem l_at_makeFunc {f a b} (h : L P ops (⟨d, .makeFunc f a b, ty, pos, after, none⟩ :: rest) R s) : L P ops (⟨d, .makeFunc f a b, ty, pos, after, none⟩ :: rest) R s := h
theorem d_at_makeFunc {f a b} (h : D P ops RO eff ALL news k (⟨d, .makeFunc f a b, ty, pos, after, g⟩ :: rest) R s) : D P ops RO eff ALL news k (⟨d, .makeFunc f a b, ty, pos, after, g⟩ :: rest) R s := h
theorem l_at_lss {t x y u} (h : L P ops (⟨d, .binOp .lss t x y u, ty, pos, after, none⟩ :: rest) R s) : L P ops (⟨d, .binOp .lss t x y u, ty, pos, after, none⟩ :: rest) R s := h
theorem d_at_lss {t x y u} (h : D P ops RO eff ALL news k (⟨d, .binOp .lss t x y u, ty, pos, after, g⟩ :: rest) R s) : D P ops RO eff ALL news k (⟨d, .binOp .lss t x y u, ty, pos, after, g⟩ :: rest) R s := h
theorem l_at_leq {t x y u} (h : L P ops (⟨d, .binOp .leq t x y u, ty, pos, after, none⟩ :: rest) R s) : L P ops (⟨d, .binOp .leq t x y u, ty, pos, after, none⟩ :: rest) R s := h
theorem d_at_leq {t x y u} (h : D P ops RO eff ALL news k (⟨d, .binOp .leq t x y u, ty, pos, after, g⟩ :: rest) R s) : D P ops RO eff ALL news k (⟨d, .binOp .leq t x y u, ty, pos, after, g⟩ :: rest) R s := h
theorem l_at_gtr {t x y u} (h : L P ops (⟨d, .binOp .gtr t x y u, ty, pos, after, none⟩ :: rest) R s) : L P ops (⟨d, .binOp .gtr t x y u, ty, pos, after, none⟩ :: rest) R s := h
theorem d_at_gtr {t x y u} (h : D P ops RO eff ALL news k (⟨d, .binOp .gtr t x y u, ty, pos, after, g⟩ :: rest) R s) : D P ops RO eff ALL news k (⟨d, .binOp .gtr t x y u, ty, pos, after, g⟩ :: rest) R s := h
theorem l_at_geq {t x y u} (h : L P ops (⟨d, .binOp .geq t x y u, ty, pos, after, none⟩ :: rest) R s) : L P ops (⟨d, .binOp .geq t x y u, ty, pos, after, none⟩ :: rest) R s := h
theorem d_at_geq {t x y u} (h : D P ops RO eff ALL news k (⟨d, .binOp .geq t x y u, ty, pos, after, g⟩ :: rest) R s) : D P ops RO eff ALL news k (⟨d, .binOp .geq t x y u, ty, pos, after, g⟩ :: rest) R s := h
theorem l_at_eql {t x y u} (h : L P ops (⟨d, .binOp .eql t x y u, ty, pos, after, none⟩ :: rest) R s) : L P ops (⟨d, .binOp .eql t x y u, ty, pos, after, none⟩ :: rest) R s := h
theorem d_at_eql {t x y u} (h : D P ops RO eff ALL news k (⟨d, .binOp .eql t x y u, ty, pos, after, g⟩ :: rest) R s) : D P ops RO eff ALL news k (⟨d, .binOp .eql t x y u, ty, pos, after, g⟩ :: rest) R s := h
theorem l_at_neq {t x y u} (h : L P ops (⟨d, .binOp .neq t x y u, ty, pos, after, none⟩ :: rest) R s) : L P ops (⟨d, .binOp .neq t x y u, ty, pos, after, none⟩ :: rest) R s := h
theorem d_at_neq {t x y u} (h : D P ops RO eff ALL news k (⟨d, .binOp .neq t x y u, ty, pos, after, g⟩ :: rest) R s) : D P ops RO eff ALL news k (⟨d, .binOp .neq t x y u, ty, pos, after, g⟩ :: rest) R s := h
theorem l_at_add {t x y u} (h : L P ops (⟨d, .binOp .add t x y u, ty, pos, after, none⟩ :: rest) R s) : L P ops (⟨d, .binOp .add t x y u, ty, pos, after, none⟩ :: rest) R s := h
theorem d_at_add {t x y u} (h : D P ops RO eff ALL news k (⟨d, .binOp .add t x y u, ty, pos, after, g⟩ :: rest) R s) : D P ops RO eff ALL news k (⟨d, .binOp .add t x y u, ty, pos, after, g⟩ :: rest) R s := h
theorem l_at_sub {t x y u} (h : L P ops (⟨d, .binOp .sub t x y u, ty, pos, after, none⟩ :: rest) R s) : L P ops (⟨d, .binOp .sub t x y u, ty, pos, after, none⟩ :: rest) R s := h
theorem d_at_sub {t x y u} (h : D P ops RO eff ALL news k (⟨d, .binOp .sub t x y u, ty, pos, after, g⟩ :: rest) R s) : D P ops RO eff ALL news k (⟨d, .binOp .sub t x y u, ty, pos, after, g⟩ :: rest) R s := h
theorem l_at_mul {t x y u} (h : L P ops (⟨d, .binOp .mul t x y u, ty, pos, after, none⟩ :: rest) R s) : L P ops (⟨d, .binOp .mul t x y u, ty, pos, after, none⟩ :: rest) R s := h
theorem d_at_mul {t x y u} (h : D P ops RO eff ALL news k (⟨d, .binOp .mul t x y u, ty, pos, after, g⟩ :: rest) R s) : D P ops RO eff ALL news k (⟨d, .binOp .mul t x y u, ty, pos, after, g⟩ :: rest) R s := h
theorem l_at_quo {t x y u} (h : L P ops (⟨d, .binOp .quo t x y u, ty, pos, after, none⟩ :: rest) R s) : L P ops (⟨d, .binOp .quo t x y u, ty, pos, after, none⟩ :: rest) R s := h
theorem d_at_quo {t x y u} (h : D P ops RO eff ALL news k (⟨d, .binOp .quo t x y u, ty, pos, after, g⟩ :: rest) R s) : D P ops RO eff ALL news k (⟨d, .binOp .quo t x y u, ty, pos, after, g⟩ :: rest) R s := h
theorem l_at_rem {t x y u} (h : L P ops (⟨d, .binOp .rem t x y u, ty, pos, after, none⟩ :: rest) R s) : L P ops (⟨d, .binOp .rem t x y u, ty, pos, after, none⟩ :: rest) R s := h
theorem d_at_rem {t x y u} (h : D P ops RO eff ALL news k (⟨d, .binOp .rem t x y u, ty, pos, after, g⟩ :: rest) R s) : D P ops RO eff ALL news k (⟨d, .binOp .rem t x y u, ty, pos, after, g⟩ :: rest) R s := h
theorem l_at_shr {t x y u} (h : L P ops (⟨d, .binOp .shr t x y u, ty, pos, after, none⟩ :: rest) R s) : L P ops (⟨d, .binOp .shr t x y u, ty, pos, after, none⟩ :: rest) R s := h
theorem d_at_shr {t x y u} (h : D P ops RO eff ALL news k (⟨d, .binOp .shr t x y u, ty, pos, after, g⟩ :: rest) R s) : D P ops RO eff ALL news k (⟨d, .binOp .shr t x y u, ty, pos, after, g⟩ :: rest) R s := h
theorem l_at_shl {t x y u} (h : L P ops (⟨d, .binOp .shl t x y u, ty, pos, after, none⟩ :: rest) R s) : L P ops (⟨d, .binOp .shl t x y u, ty, pos, after, none⟩ :: rest) R s := h
theorem d_at_shl {t x y u} (h : D P ops RO eff ALL news k (⟨d, .binOp .shl t x y u, ty, pos, after, g⟩ :: rest) R s) : D P ops RO eff ALL news k (⟨d, .binOp .shl t x y u, ty, pos, after, g⟩ :: rest) R s := h
theorem l_at_and {t x y u} (h : L P ops (⟨d, .binOp .and t x y u, ty, pos, after, none⟩ :: rest) R s) : L P ops (⟨d, .binOp .and t x y u, ty, pos, after, none⟩ :: rest) R s := h
theorem d_at_and {t x y u} (h : D P ops RO eff ALL news k (⟨d, .binOp .and t x y u, ty, pos, after, g⟩ :: rest) R s) : D P ops RO eff ALL news k (⟨d, .binOp .and t x y u, ty, pos, after, g⟩ :: rest) R s := h
theorem l_at_or {t x y u} (h : L P ops (⟨d, .binOp .or t x y u, ty, pos, after, none⟩ :: rest) R s) : L P ops (⟨d, .binOp .or t x y u, ty, pos, after, none⟩ :: rest) R s := h
theorem d_at_or {t x y u} (h : D P ops RO eff ALL news k (⟨d, .binOp .or t x y u, ty, pos, after, g⟩ :: rest) R s) : D P ops RO eff ALL news k (⟨d, .binOp .or t x y u, ty, pos, after, g⟩ :: rest) R s := h
theorem l_at_xor {t x y u} (h : L P ops (⟨d, .binOp .xor t x y u, ty, pos, after, none⟩ :: rest) R s) : L P ops (⟨d, .binOp .xor t x y u, ty, pos, after, none⟩ :: rest) R s := h
theorem d_at_xor {t x y u} (h : D P ops RO eff ALL news k (⟨d, .binOp .xor t x y u, ty, pos, after, g⟩ :: rest) R s) : D P ops RO eff ALL news k (⟨d, .binOp .xor t x y u, ty, pos, after, g⟩ :: rest) R s := h
theorem l_g (h : L P ops (⟨d, op, ty, pos, after, some (j, want)⟩ :: rest) R s) : L P ops (⟨d, op, ty, pos, after, some (j, want)⟩ :: rest) R s := h
theorem l_ng (h : L P ops (⟨d, op, ty, pos, after, none⟩ :: rest) R s) : L P ops (⟨d, op, ty, pos, after, none⟩ :: rest) R s := h
theorem d_g (h : D P ops RO eff ALL news k (⟨d, op, ty, pos, after, some (j, want)⟩ :: rest) R s) : D P ops RO eff ALL news k (⟨d, op, ty, pos, after, some (j, want)⟩ :: rest) R s := h
theorem d_ng (h : D P ops RO eff ALL news k (⟨d, op, ty, pos, after, none⟩ :: rest) R s) : D P ops RO eff ALL news k (⟨d, op, ty, pos, after, none⟩ :: rest) R s := h
theorem d_gy {t : Tmp} {fr : List RV} {O : List Bk} (hj : gslot ops j = some t) (ht : lget fr t = .v (.bool want)) (h : D P ops RO eff ALL news k (⟨d, op, ty, pos, after, some (j, want)⟩ :: rest) R ⟨fr, O⟩) : D P ops RO eff ALL news k (⟨d, op, ty, pos, after, some (j, want)⟩ :: rest) R ⟨fr, O⟩ := by
  have _ := hj; have _ := ht; exact h
theorem d_eff (he : eff k = true) (h : D P ops RO eff ALL news k rest R s) : D P ops RO eff ALL news k rest R s := by
  have _ := he; exact h
end
end Eng
end Go.Proofs.Ytpbokegnbipbjaa

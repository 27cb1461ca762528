import Derived.Test.YtkoakmaihcheaabDoorGLk
namespace Go.GL
open Lean Lean.PrettyPrinter
@[app_unexpander WC] def u1 : Unexpander
  | `($_ $_ $_ (Code.region $i $_ $d) $env $L $k) => `(WC_region $i $d $env $L $k)
  | `($_ $_ $_ (Code.cond $c $_ $_) $env $L $k) => `(WC_cond $c $env $L $k)
  | `($_ $_ $_ (Code.loop $_) $env $L $k) => `(WC_loop $env $L $k)
  | `($_ $_ $_ ($_).loop $env $L $k) => `(WC_loop $env $L $k)
  | `($_ $_ $_ $_ $env $L $k) => `(WC_at $(Lean.mkIdent `___) $env $L $k)
  | _ => MonadExcept.throw ()
@[app_unexpander WL] def u2 : Unexpander
  | `($_ $_ $_ $_ [] $env $L $k) => `(WL_end $env $L $k)
  | `($_ $_ $_ $_ [$o, $_,*] $env $L $k) => `(WL_at $o $env $L $k)
  | `($_ $_ $_ $_ ($o :: $_) $env $L $k) => `(WL_at $o $env $L $k)
  | _ => MonadExcept.throw ()
@[app_unexpander seqK] def u3 : Unexpander
  | `($_ $_ $_ $_ $k) => `(sK $k)
  | `($_ $_ $_ $_ $k $e $env $L) => `(sK $k $e $env $L)
  | _ => MonadExcept.throw ()
@[app_unexpander WH] def u4 : Unexpander
  | `($_ $_ $_ $_ $n $S $hd $f $l $env $L $k) => `(WH_at $n $S $hd $f $l $env $L $k)
  | _ => MonadExcept.throw ()
end Go.GL

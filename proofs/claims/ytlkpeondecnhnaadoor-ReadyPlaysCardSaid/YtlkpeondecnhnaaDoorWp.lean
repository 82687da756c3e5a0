/-
  All that is written out.
-/
import Derived.Test.YtlkpeondecnhnaaDoorW0
import Derived.Test.YtlkpeondecnhnaaDoorW1

/- Bodies: all parts. -/
import Derived.Test.YtodnphnbnneegaaCode0
import Derived.Test.YtodnphnbnneegaaCode1
